/- A reader of the program's and one of the document's side by side: what both keep. No conditions. plumblaw27.fed: a piece fed to both readers: the same answers; walked. plumblaw27.StreamReads, walked. -/
import Derived.Test.YtlffgepnhhnadaaDoorRfM
import Derived.Test.YtlffgepnhhnadaaDoorRfH
namespace Go.Proofs.YtlffgepnhhnadaaDoor.Pl
section
open Go.RowKit

/-- the blocks that are a reader's own -/
def FootS (w : World) (rb b : Nat) : Prop := b = rb ∨ ∃ v, w.cell? ⟨rb, 1, none⟩ = some v ∧ v.ownBlock = some b
theorem apt_iff {w : World} {rb b : Nat} (hb : b < w.heap.size) (h : ¬ FootS w rb b) : AptS w rb b := ⟨hb, fun e => h (.inl e), fun v hv e => h (.inr ⟨v, hv, e⟩)⟩
theorem apt_not {w : World} {rb b : Nat} (h : AptS w rb b) : ¬ FootS w rb b := by
  rintro (rfl | ⟨v, hv, e⟩)
  · exact h.2.1 rfl
  · exact h.2.2 v hv e
theorem IsSt.foot {B rb : Nat} {w : World} {depth begin_ count : Int} {l : List UInt8} {bp : Value} (h : IsSt B w rb depth l begin_ count bp) : ∀ b, FootS w rb b → b < w.heap.size := by
  obtain ⟨wv, m1, m2⟩ := h.mem
  rintro b (rfl | ⟨v, hv, e⟩)
  · exact lt_of_heap m1
  · simp [World.cell?, m1] at hv; subst hv; exact (m2.own b e).2.2
theorem IsRf.foot {B sb next count : Nat} {w : World} {depth bad : Int} {all : List UInt8} (h : IsRf B w sb depth all next count bad) : ∀ b, FootS w sb b → b < w.heap.size := by
  obtain ⟨bw, m1, m2, m3⟩ := h.mem
  rintro b (rfl | ⟨v, hv, e⟩)
  · exact lt_of_heap m1
  · simp [World.cell?, m1] at hv; subst hv; exact (World.ownsRow.lt m2 b e).2
/-- a reader's own blocks behind a change that leaves them -/
theorem FootS.same {w w' : World} {rb : Nat} (h : w'.heap[rb]? = w.heap[rb]?) (b : Nat) : FootS w' rb b ↔ FootS w rb b := by
  unfold FootS
  rw [World.cell?_of_block (a := ⟨rb, 1, none⟩) h]

/-- two readers that were fed alike: what came, what was read; where their memory lies -/
def PairS (B : Nat) (w : World) (S : Nat → Prop) (xb ub : Nat) (depth : Int) (k : Nat) : Prop := ∃ (all : List UInt8) (next count : Nat) (bad : Int) (bp : Value),
  IsSt B w xb depth (all.drop next) next count bp ∧ IsRf B w ub depth all next count bad ∧ (next ≤ all.length ∧ all.length ≤ k ∧ count ≤ next) ∧
  ((bad = -1 ∧ bp = .pointer none) ∨ (0 ≤ bad ∧ ∃ fb, bp = .pointer (some ⟨fb, 0, none⟩) ∧ w.cell? ⟨fb, 0, none⟩ = some (.int .i64 bad) ∧ S fb)) ∧
  (∀ b, FootS w xb b → S b) ∧ (∀ b, FootS w ub b → S b) ∧ (∀ b, S b → b < w.heap.size) ∧ (∀ b, FootS w xb b → ¬ FootS w ub b)

theorem PairS.kept {B xb ub k : Nat} {w w' : World} {S : Nat → Prop} {depth : Int} (h : PairS B w S xb ub depth k) (hs : w.heap.size ≤ w'.heap.size) (hk : ∀ b, S b → w'.heap[b]? = w.heap[b]?) : PairS B w' S xb ub depth k := by
  obtain ⟨all, next, count, bad, bp, h1, h2, h3, h4, h5, h6, h7, h8⟩ := h
  have hx := hk xb (h5 xb (.inl rfl))
  have hu := hk ub (h6 ub (.inl rfl))
  refine ⟨all, next, count, bad, bp, h1.kept hs hx (fun v g hv hg => hk g (h5 g (.inr ⟨v, hv, hg⟩))), h2.kept hu (fun v g hv hg => hk g (h6 g (.inr ⟨v, hv, hg⟩))), h3, ?_, fun b hb => h5 b ((FootS.same hx b).1 hb), fun b hb => h6 b ((FootS.same hu b).1 hb), fun b hb => Nat.lt_of_lt_of_le (h7 b hb) hs, fun b hb hc => h8 b ((FootS.same hx b).1 hb) ((FootS.same hu b).1 hc)⟩
  rcases h4 with h4 | ⟨h4, fb, hbp, hc, hS⟩
  · exact .inl h4
  · exact .inr ⟨h4, fb, hbp, (World.cell?_of_block (a := ⟨fb, 0, none⟩) (hk fb hS)).trans hc, hS⟩
theorem PairS.more {B xb ub k k' : Nat} {w : World} {S : Nat → Prop} {depth : Int} (h : PairS B w S xb ub depth k) (hk : k ≤ k') : PairS B w S xb ub depth k' := by
  obtain ⟨all, next, count, bad, bp, h1, h2, ⟨h3, h3', h3''⟩, h4⟩ := h
  exact ⟨all, next, count, bad, bp, h1, h2, ⟨h3, Nat.le_trans h3' hk, h3''⟩, h4⟩
/-- two new readers -/
theorem PairS.new {B xb ub : Nat} {w : World} {depth : Int} (hx : FreshR w xb depth) (hu : w.heap[ub]? = some (.cells #[.int .i64 depth, .slice none 0 0, .int .i64 0, .int .i64 0, .int .i64 (-1)] 91 (0, 0))) (hB : B ≤ xb) (hB2 : B ≤ ub) (hne : xb ≠ ub) :
    PairS B w (fun b => b = xb ∨ b = ub) xb ub depth 0 := by
  have f1 : ∀ b, FootS w xb b → b = xb := by
    rintro b (rfl | ⟨v, hv, e⟩)
    · rfl
    · have := cell_row (cs := [_, _, _, _, _]) (j := 1) (show w.heap[xb]? = _ from hx) rfl
      rw [this] at hv; cases hv; cases e
  have f2 : ∀ b, FootS w ub b → b = ub := by
    rintro b (rfl | ⟨v, hv, e⟩)
    · rfl
    · have := cell_row (cs := [_, _, _, _, _]) (j := 1) hu rfl
      rw [this] at hv; cases hv; cases e
  refine ⟨[], 0, 0, -1, .pointer none, hx.st hB, ⟨hB2, _, hu, ⟨by simp, .inl ⟨rfl, rfl⟩⟩, by simp [Value.ownBlock]⟩, ⟨by simp, by simp, by simp⟩, .inl ⟨rfl, rfl⟩, fun b hb => .inl (f1 b hb), fun b hb => .inr (f2 b hb), ?_, fun b hb hc => hne ((f1 b hb).symm.trans (f2 b hc))⟩
  rintro b (rfl | rfl)
  · exact lt_of_heap hx
  · exact lt_of_heap hu
end
section
open Go.RowKit

section
variable {B xb ub next count k : Nat} {w w1 w2 w3 w4 : World} {S : Nat → Prop} {depth : Int} {all m : List UInt8}
/-- between the two feeds: what is not the document's reader's stands -/
theorem fed_between (h2 : IsRf B w ub depth all next count (-1)) (hb1 : Below w.heap.size w w1) (hk2 : KeepS ub w1 w2) (hb3 : Below w2.heap.size w2 w3) (b : Nat) (hb : b < w.heap.size) (hn : ¬ FootS w ub b) :
    w3.heap[b]? = w.heap[b]? ∧ AptS w2 ub b := by
  have hu := hb1.block ub h2.lt
  have ha : AptS w1 ub b := apt_iff (Nat.lt_of_lt_of_le hb hb1.size) (fun h => hn ((FootS.same hu b).1 h))
  obtain ⟨k1, k2⟩ := hk2 b ha
  exact ⟨(hb3.block b k2.1).trans (k1.trans (hb1.block b hb)), k2⟩
theorem fed_st (h1 : IsSt B w xb depth (all.drop next) next count (.pointer none)) (h2 : IsRf B w ub depth all next count (-1)) (h8 : ∀ b, FootS w xb b → ¬ FootS w ub b) (hb1 : Below w.heap.size w w1) (hbl2 : Below B w1 w2) (hk2 : KeepS ub w1 w2) (hb3 : Below w2.heap.size w2 w3) :
    IsSt B w3 xb depth (all.drop next) next count (.pointer none) ∧ w3.heap[xb]? = w.heap[xb]? := by
  have hx := fed_between h2 hb1 hk2 hb3
  have hf := h1.foot
  have e := (hx xb (hf xb (.inl rfl)) (h8 xb (.inl rfl))).1
  exact ⟨h1.kept (Nat.le_trans hb1.size (Nat.le_trans hbl2.size hb3.size)) e (fun v g hv hg => (hx g (hf g (.inr ⟨v, hv, hg⟩)) (h8 g (.inr ⟨v, hv, hg⟩))).1), e⟩

theorem pair_fed {r : List G × Nat × List UInt8 × Option (Int × Int)} {c a bad : Int} {ov ev bp : Value} {vs : List Value} (h1 : IsSt B w xb depth (all.drop next) next count (.pointer none)) (h2 : IsRf B w ub depth all next count (-1)) (hn : next ≤ all.length ∧ all.length ≤ k ∧ count ≤ next)
    (h5 : ∀ b, FootS w xb b → S b) (h6 : ∀ b, FootS w ub b → S b) (h8 : ∀ b, FootS w xb b → ¬ FootS w ub b) (hB : B ≤ w.heap.size) (hb1 : Below w.heap.size w w1) (hbl2 : Below B w1 w2) (hk2 : KeepS ub w1 w2)
    (hrf2 : IsRf B w2 ub depth (all ++ m) (next + r.2.1) (count + r.1.length) bad) (her : RFeedE ((next + r.2.1 : Nat) : Int) r.2.2.2 c a bad) (hb3 : Below w2.heap.size w2 w3) (hU : FeedU B w3 xb depth next count r ov ev bp vs w4) (hr : r = feed depth (all.drop next ++ m)) (hm : m.length ≤ 3000) (hk : k ≤ 1000000) :
    (∃ S', PairS B w4 S' xb ub depth (k + 3000) ∧ ∀ b, S' b → S b ∨ w.heap.size ≤ b) ∧ (∀ b, b < w.heap.size → ¬ S b → w4.heap[b]? = w.heap[b]?) ∧ Below B w w4 ∧ (∀ b, w.heap.size ≤ b → b < w3.heap.size → AptS w3 xb b) ∧ IsRf B w4 ub depth (all ++ m) (next + r.2.1) (count + r.1.length) bad ∧ next + r.2.1 ≤ (all ++ m).length ∧ r.2.2.1.length = (all ++ m).length - (next + r.2.1) := by
  have hx := fed_between h2 hb1 hk2 hb3
  obtain ⟨hst3, hx3⟩ := fed_st h1 h2 h8 hb1 hbl2 hk2 hb3
  have hfx : ∀ b, FootS w3 xb b → FootS w xb b := fun b hb => (FootS.same hx3 b).1 hb
  have hnew : ∀ b, w.heap.size ≤ b → b < w3.heap.size → AptS w3 xb b := fun b hb hb3 => apt_iff hb3 (fun h => by have := h1.foot b (hfx b h); omega)
  have hu3 : ∀ b, FootS w2 ub b → AptS w3 xb b := fun b hb => by
    have hlt := hrf2.foot b hb
    refine apt_iff (Nat.lt_of_lt_of_le hlt hb3.size) fun h => ?_
    have h' := hfx b h
    exact apt_not (hx b (h1.foot b h') (h8 b h')).2 hb
  have hu4 : ∀ b, FootS w2 ub b → w4.heap[b]? = w2.heap[b]? := fun b hb => ((hU.keep b (hu3 b hb)).1).trans (hb3.block b (hrf2.foot b hb))
  have hub4 := hu4 ub (.inl rfl)
  have hrf4 := hrf2.kept (w' := w4) hub4 (fun v g hv hg => hu4 g (.inr ⟨v, hv, hg⟩))
  obtain ⟨l1, l2, l3⟩ := feed_len depth _ (all.drop next ++ m) (Nat.le_refl _)
  rw [← hr] at l1 l2 l3
  have hlen : (all.drop next ++ m).length = all.length - next + m.length := by simp
  have hdrop : all.drop next ++ m = (all ++ m).drop next := by rw [List.drop_append_of_le_length hn.1]
  have hrest : r.2.2.1 = (all ++ m).drop (next + r.2.1) := by rw [l2, hdrop, List.drop_drop]
  have hst4 := hU.st
  rw [hrest, show ((next : Int) + (r.2.1 : Int)) = ((next + r.2.1 : Nat) : Int) by omega, show ((count : Int) + (r.1.length : Int)) = ((count + r.1.length : Nat) : Int) by omega] at hst4
  have hfold : ∀ b, b < w.heap.size → ¬ S b → w4.heap[b]? = w.heap[b]? ∧ AptS w4 xb b ∧ AptS w2 ub b := fun b hb hS => by
    obtain ⟨k1, k2⟩ := hx b hb (fun h => hS (h6 b h))
    have ha3 : AptS w3 xb b := apt_iff (Nat.lt_of_lt_of_le k2.1 hb3.size) (fun h => hS (h5 b (hfx b h)))
    exact ⟨(hU.keep b ha3).1.trans k1, (hU.keep b ha3).2, k2⟩
  have hbw : Below B w w4 := ((hb1.mono hB).trans hbl2).trans ((hb3.mono (Nat.le_trans hB (Nat.le_trans hb1.size hbl2.size))).trans hU.below)
  refine ⟨⟨fun b => FootS w4 xb b ∨ FootS w4 ub b ∨ ∃ fb, bp = .pointer (some ⟨fb, 0, none⟩) ∧ fb = b, ⟨all ++ m, next + r.2.1, count + r.1.length, bad, bp, hst4, hrf4, ⟨?_, ?_, ?_⟩, ?_, fun b hb => .inl hb, fun b hb => .inr (.inl hb), ?_, fun b hb hc => ?_⟩, ?_⟩, fun b hb hS => (hfold b hb hS).1, hbw, hnew, hrf4, by rw [List.length_append]; omega, by rw [List.length_append]; omega⟩
  · rw [List.length_append]; omega
  · rw [List.length_append]; omega
  · omega
  · have hbp := hU.bp
    cases her2 : r.2.2.2 with
    | none =>
      rw [her2] at hbp her
      exact .inl ⟨her.2, hbp⟩
    | some x =>
      rw [her2] at hbp her
      obtain ⟨hc1, hc2, rfl, rfl⟩ := her
      obtain ⟨fb, hbp, hnw, hcell⟩ := hbp
      have hpl := feed_place depth _ (all.drop next ++ m) (Nat.le_refl _) x.1 x.2 (by rw [← hr, her2])
      rw [← hr] at hpl
      have hw : wrap64 (x.1 + ((next : Int) + (r.2.1 : Int))) = ((next + r.2.1 : Nat) : Int) + x.1 := by rw [wrap_at (by omega) (by omega) (by omega) (by omega)]; omega
      rw [hw] at hcell
      exact .inr ⟨by omega, fb, hbp, hcell, .inr (.inr ⟨fb, hbp, rfl⟩)⟩
  · rintro b (hb | hb | ⟨fb, hbp, rfl⟩)
    · exact hst4.foot b hb
    · exact hrf4.foot b hb
    · have hbk := hU.bp
      cases her2 : r.2.2.2 with
      | none => rw [her2] at hbk; rw [show bp = .pointer none from hbk] at hbp; cases hbp
      | some x =>
        rw [her2] at hbk
        obtain ⟨fb', hbp', hnw, _⟩ := hbk
        rw [hbp'] at hbp; cases hbp
        exact hnw.1.1
  · exact apt_not (hU.keep b (hu3 b ((FootS.same hub4 b).1 hc))).2 hb
  · rintro b (hb | hb | ⟨fb, hbp, rfl⟩)
    · by_cases hlt : b < w.heap.size
      · exact .inl (Classical.byContradiction fun hS => apt_not (hfold b hlt hS).2.1 hb)
      · exact .inr (by omega)
    · by_cases hlt : b < w.heap.size
      · exact .inl (Classical.byContradiction fun hS => apt_not (hfold b hlt hS).2.2 ((FootS.same hub4 b).1 hb))
      · exact .inr (by omega)
    · right
      have hbk := hU.bp
      cases her2 : r.2.2.2 with
      | none => rw [her2] at hbk; rw [show bp = .pointer none from hbk] at hbp; cases hbp
      | some x =>
        rw [her2] at hbk
        obtain ⟨fb', hbp', hnw, _⟩ := hbk
        rw [hbp'] at hbp; cases hbp
        have := hnw.2; have := hb1.size; have := hbl2.size; have := hb3.size
        omega
end
/-- told says yes -/
theorem told_yes {p c a bad b : Int} {er : Option (Int × Int)} (h : RFeedE p er c a bad) (hb : b = p) (hw : ∀ x, er = some x → wrap64 (x.1 + p) = p + x.1) : toldB (errAt b er) c a = true := by
  cases er with
  | none => obtain ⟨rfl, _⟩ := h; simp [toldB, errAt]
  | some x =>
    obtain ⟨rfl, h0, rfl, _⟩ := h
    subst hb
    simp [toldB, errAt, h0, hw x rfl]

set_option maxRecDepth 100000 in
set_option maxHeartbeats 2000000 in
theorem fed_any {B k xb ub : Nat} {S : Nat → Prop} {pv : Value} {piece : List UInt8} {depth : Int} (w : World) (h : PairS B w S xb ub depth k) (hp : Bytes (fun b => ¬ S b) w pv piece) (hk : k ≤ 1000000) (hg : ErrT w) (hB : B ≤ w.heap.size) (hB0 : 0 < B) :
    Calls Tryd.prog 16 #[.pointer (some ⟨xb, 0, none⟩), .pointer (some ⟨ub, 0, none⟩), pv] w fun e w' => e = .returned (.bool true) ∧ Below B w w' ∧ (∃ S', PairS B w' S' xb ub depth (k + 3000) ∧ ∀ b, S' b → S b ∨ w.heap.size ≤ b) ∧ ∀ b, b < w.heap.size → ¬ S b → w'.heap[b]? = w.heap[b]? := by
  have h0 := h
  obtain ⟨all, next, count, bad, bp, h1, h2, hn, h4, h5, h6, h7, h8⟩ := h
  have HC1 := Lib.hid (cut_any 3000 w hp)
  have hml : (piece.take (Int.toNat 3000)).length ≤ 3000 := by rw [List.length_take]; exact Nat.min_le_left _ _
  have HPW := Lib.hid (And.intro hp hg)
  obtain ⟨m, hm⟩ : ∃ m, piece.take (Int.toNat 3000) = m := ⟨_, rfl⟩
  rw [hm] at HC1 hml
  rcases h4 with ⟨rfl, rfl⟩ | ⟨h4, fb, rfl, hc, hS⟩
  · have H := Lib.hid (And.intro h1 (And.intro h2 (And.intro h5 (And.intro h6 h8))))
    clear h0 h1 h2 h5 h6 h7 h8 hp hg
    go_enter Tryd.func16, Tryd.ntmps16
    go_wp2_with fail
    refine HC1.out.mono ?_
    rintro e w1 ⟨r1, rfl, ho1, hb1⟩
    have hby1 : Bytes (AptS w1 ub) w1 r1 m := (ho1.bytes (by omega)).mono fun b hb hle => apt_iff hb (fun hf => by have := H.out.2.1.foot b ((FootS.same (hb1.block ub H.out.2.1.lt) b).1 hf); omega)
    have HRF := Lib.hid (RFeed_any w1 (H.out.2.1.below hb1) hby1 hn.1 (by omega) (by omega) (Nat.le_trans hB hb1.size))
    have HB1 := Lib.hid hb1
    clear hb1 ho1 hby1
    go_wp2_with fail
    refine HRF.out.mono ?_
    rintro e w2 ⟨ov, c, a, bad, vs, rfl, hbl2, hk2, hsl2, hgs2, hrf2, her⟩
    rw [show (all ++ m).drop next = all.drop next ++ m by rw [List.drop_append_of_le_length hn.1]] at hsl2 hgs2 hrf2 her
    have hp2 : Bytes (fun b => ¬ S b) w2 pv piece := ((HPW.out.1.mono (ok' := fun b => ¬ S b ∧ b < w.heap.size) fun b hb h => ⟨h, hb⟩).keeps (w' := w2) fun b o hb ho _ => (fed_between H.out.2.1 HB1.out hk2 (Below.refl w2.heap.size w2) b hb.2 (fun h => hb.1 (H.out.2.2.2.1 b h))).1.trans ho).mono fun b _ hb => hb.1
    have HC3 := Lib.hid (cut_any 3000 w2 hp2)
    rw [hm] at HC3
    obtain ⟨r, hr⟩ : ∃ r, feed depth (all.drop next ++ m) = r := ⟨_, rfl⟩
    rw [hr] at hsl2 hgs2 hrf2 her
    have hsl2' := hsl2
    obtain ⟨OA, oc, rfl, _⟩ := hsl2'
    have H2 := Lib.hid (And.intro hbl2 (And.intro hk2 (And.intro hsl2 (And.intro hgs2 (And.intro hrf2 her)))))
    clear hbl2 hk2 hsl2 hgs2 hrf2 her hp2 HRF
    go_wp2_with fail
    refine HC3.out.mono ?_
    rintro e w3 ⟨r3, rfl, ho3, hb3⟩
    have hst3 := (fed_st H.out.1 H.out.2.1 H.out.2.2.2.2 HB1.out H2.out.1 H2.out.2.1 hb3).1
    have hB3 : Below B w w3 := ((HB1.out.mono hB).trans H2.out.1).trans (hb3.mono (Nat.le_trans hB (Nat.le_trans HB1.out.size H2.out.1.size)))
    have hg3 : ErrT w3 := (hB3.cell (p := ⟨0, 0, none⟩) hB0).trans HPW.out.2
    have HF := Lib.hid (feed_any w3 hst3 (ho3.any (by omega)) (by rw [List.length_drop]; omega) (by omega) hg3 (Nat.le_trans hB hB3.size) hB0)
    rw [hr] at HF
    have HB3 := Lib.hid (And.intro hb3 hB3)
    clear hb3 hB3 hst3 ho3 hg3 HC3
    go_wp2_with fail
    refine HF.out.mono ?_
    rintro e w4 ⟨ov4, ev, bp, vs4, rfl, hU⟩
    obtain ⟨hS4, hfr, hbw, hnew, hrf4, hle4, hlen4⟩ := pair_fed H.out.1 H.out.2.1 hn H.out.2.2.1 H.out.2.2.2.1 H.out.2.2.2.2 hB HB1.out H2.out.1 H2.out.2.1 H2.out.2.2.2.2.1 H2.out.2.2.2.2.2 HB3.out.1 hU hr.symm hml hk
    have hkp : Keeps (fun b => NewS w1 w2 ub b ∧ b < w3.heap.size) w3 w4 := fun b o hb ho _ => ((hU.keep b (hnew b (Nat.le_trans HB1.out.size hb.1.2) hb.2)).1).trans ho
    have hS2 := (((H2.out.2.2.1.keeps (below_keeps HB3.out.1 _)).mono (ok' := fun b => NewS w1 w2 ub b ∧ b < w3.heap.size) fun b hb h => ⟨h, hb⟩).keeps hkp)
    have hG2 := (((H2.out.2.2.2.1.keeps (below_keeps HB3.out.1 _)).mono (ok' := fun b => NewS w1 w2 ub b ∧ b < w3.heap.size) fun b hb h => ⟨h, hb⟩).keeps hkp)
    have HT := Lib.hid (trees_any w4 hU.sl hU.gs hS2 hG2)
    have hU' := hU.sl
    obtain ⟨QA, qc, rfl, _⟩ := hU'
    have hg4 : ErrT w4 := (hbw.cell (p := ⟨0, 0, none⟩) hB0).trans HPW.out.2
    have hwl : all.length + m.length ≤ 2000000 := by omega
    have hll : (all ++ m).length = all.length + m.length := List.length_append
    have hty := told_yes (b := (next : Int) + (r.2.1 : Int)) H2.out.2.2.2.2.2 (by omega) (fun x hx => by
      have hpl := feed_place depth _ (all.drop next ++ m) (Nat.le_refl _) x.1 x.2 (by rw [hr, hx])
      rw [hr] at hpl
      rw [wrap_at (by omega) (by omega) (by omega) (by omega)]; omega)
    have HTO := Lib.hid (fun W (hb : Below w4.heap.size w4 W) => told_any _ ev c a W (hg4.below hb) (hU.err.keeps (below_keeps hb _)))
    rw [hty] at HTO
    have H4 := Lib.hid (And.intro hS4 (And.intro hfr (And.intro hbw (And.intro hrf4 hU.st))))
    have HL4 := Lib.hid (And.intro hle4 hlen4)
    clear hU hS4 hfr hbw hnew hrf4 hkp hS2 hG2 hg4 hty HF
    go_wp2_with fail
    refine HT.out.mono ?_
    rintro e w5 ⟨rfl, hb5⟩
    go_wp2_with fail
    refine (HTO.out w5 hb5).mono ?_
    rintro e w6 ⟨rfl, hb6⟩
    have hb46 : Below w4.heap.size w4 w6 := hb5.trans (hb6.mono hb5.size)
    have HB6 := Lib.hid hb46
    clear hb5 hb6 hb46 HT HTO
    go_wp2_with fail
    refine (Waiting_any w6 (H4.out.2.2.2.2.below HB6.out)).mono ?_
    rintro e w' ⟨rfl, rfl⟩
    go_wp2_with fail
    refine (RWaiting_any w6 (H4.out.2.2.2.1.below HB6.out) HL4.out.1 (by omega)).mono ?_
    rintro e w' ⟨rfl, n, rfl⟩
    have hwe : ((r.2.2.1.length : Int) == (((all ++ m).length - (next + r.2.1) : Nat) : Int)) = true := by rw [HL4.out.2]; simp
    have HB7 := Lib.hid (below_drewN HB6.out n)
    have hce : (((count : Int) + (r.1.length : Int)) == ((count + r.1.length : Nat) : Int)) = true := by simp
    go_wp2_with fail
    refine (Count_any _ (H4.out.2.2.2.2.below HB7.out)).mono ?_
    rintro e w' ⟨rfl, rfl⟩
    go_wp2_with fail
    refine (RCount_any _ (H4.out.2.2.2.1.below HB7.out)).mono ?_
    rintro e w' ⟨rfl, rfl⟩
    go_wp2
    go_ret
    obtain ⟨⟨S', hS', hSn⟩, hfr, hbw, _⟩ := H4.out
    have hlt : ∀ b, S' b → b < w4.heap.size := by obtain ⟨_, _, _, _, _, _, _, _, _, _, _, h7, _⟩ := hS'; exact h7
    exact ⟨rfl, hbw.trans (HB7.out.mono (Nat.le_trans hB hbw.size)), ⟨S', hS'.kept HB7.out.size (fun b hb => HB7.out.block b (hlt b hb)), hSn⟩, fun b hb hS => (HB7.out.block b (Nat.lt_of_lt_of_le hb hbw.size)).trans (hfr b hb hS)⟩
  · have HH := Lib.hid h0
    have hlx := h7 fb hS
    have hnb : bad ≠ -1 := by omega
    have H := Lib.hid (And.intro h1 (And.intro h2 h7))
    clear h0 h1 h2 h5 h6 h8 hp hg
    go_enter Tryd.func16, Tryd.ntmps16
    go_wp2_with fail
    refine HC1.out.mono ?_
    rintro e w1 ⟨r1, rfl, _, hb1⟩
    have HB1 := Lib.hid hb1
    clear hb1
    go_wp2_with fail
    refine (RFeed_broken r1 w1 (H.out.2.1.below HB1.out) h4).mono ?_
    rintro e w2 ⟨rfl, n2, hw2⟩
    have hb2 : Below w.heap.size w w2 := by rw [hw2]; exact below_drewN HB1.out _
    have HB2 := Lib.hid hb2
    clear hb2 hw2
    have HC3 := Lib.hid (cut_any 3000 w2 (HPW.out.1.keeps (below_keeps HB2.out _)))
    go_wp2_with fail
    refine HC3.out.mono ?_
    rintro e w3 ⟨r3, rfl, _, hb3⟩
    have HB3 := Lib.hid (HB2.out.trans (hb3.mono HB2.out.size))
    clear hb3
    go_wp2_with fail
    refine (Feed_broken r3 w3 (H.out.1.below HB3.out) ((HB3.out.cell (p := ⟨fb, 0, none⟩) hlx).trans hc)).mono ?_
    rintro e w4 ⟨ev, rfl, hb4, her⟩
    have HB4 := Lib.hid (HB3.out.trans (hb4.mono HB3.out.size))
    have HT := Lib.hid (trees_any (ok := fun _ => True) (ok2 := fun _ => True) (gs := []) (vs := []) (us := []) (v := .slice none 0 0) (u := .slice none 0 0) w4 (Sl.nil _ _) (by simp [IsGs]) (Sl.nil _ _) (by simp [IsGs]))
    have HTO := Lib.hid (fun W (hb : Below w4.heap.size w4 W) => told_any (some (bad, 272)) ev 272 bad W (HPW.out.2.below (HB4.out.trans (hb.mono HB4.out.size))) (her.keeps (below_keeps hb _)))
    rw [show toldB (some (bad, 272)) 272 bad = true by simp [toldB]] at HTO
    clear hb4 her
    go_wp2_with fail
    refine HT.out.mono ?_
    rintro e w5 ⟨rfl, hb5⟩
    go_wp2_with fail
    refine (HTO.out w5 hb5).mono ?_
    rintro e w6 ⟨rfl, hb6⟩
    have HB6 := Lib.hid (HB4.out.trans ((hb5.trans (hb6.mono hb5.size)).mono HB4.out.size))
    clear hb5 hb6 HT HTO
    go_wp2_with fail
    refine (Waiting_any w6 (H.out.1.below HB6.out)).mono ?_
    rintro e w' ⟨rfl, rfl⟩
    go_wp2_with fail
    refine (RWaiting_any w6 (H.out.2.1.below HB6.out) hn.1 (by omega)).mono ?_
    rintro e w' ⟨rfl, n, rfl⟩
    have hwe : (((all.drop next).length : Int) == ((all.length - next : Nat) : Int)) = true := by rw [List.length_drop]; simp
    have HB7 := Lib.hid (below_drewN HB6.out n)
    have hce : ((count : Int) == (count : Int)) = true := by simp
    go_wp2_with fail
    refine (Count_any _ (H.out.1.below HB7.out)).mono ?_
    rintro e w' ⟨rfl, rfl⟩
    go_wp2_with fail
    refine (RCount_any _ (H.out.2.1.below HB7.out)).mono ?_
    rintro e w' ⟨rfl, rfl⟩
    go_wp2
    go_ret
    exact ⟨rfl, HB7.out.mono hB, ⟨S, (HH.out.kept HB7.out.size (fun b hb => HB7.out.block b (H.out.2.2 b hb))).more (by omega), fun b hb => .inl hb⟩, fun b hb _ => HB7.out.block b hb⟩
end
section
open Go.RowKit

/-- pieces of bytes that came in -/
def Pieces (w : World) (v : Value) (ls : List (List UInt8)) : Prop := ∃ vs, Sl (fun _ => True) w v ls.length vs ∧ Each (Bytes (fun _ => True) w) vs ls
/-- four readers, two by two -/
def FourS (w : World) (xb ub yb vb : Nat) (d0 d1 : Int) (k1 k2 : Nat) (W : World) : Prop := Below w.heap.size w W ∧ ∃ S1 S2 : Nat → Prop, PairS w.heap.size W S1 xb ub d0 k1 ∧ PairS w.heap.size W S2 yb vb d1 k2 ∧ (∀ b, S1 b → ¬ S2 b) ∧ (∀ b, S1 b → w.heap.size ≤ b) ∧ (∀ b, S2 b → w.heap.size ≤ b)
theorem PairS.lt {B xb ub k : Nat} {w : World} {S : Nat → Prop} {depth : Int} (h : PairS B w S xb ub depth k) : ∀ b, S b → b < w.heap.size := by obtain ⟨_, _, _, _, _, _, _, _, _, _, _, h7, _⟩ := h; exact h7
theorem FourS.swap {w W : World} {xb ub yb vb k1 k2 : Nat} {d0 d1 : Int} (h : FourS w xb ub yb vb d0 d1 k1 k2 W) : FourS w yb vb xb ub d1 d0 k2 k1 W := by
  obtain ⟨hb, S1, S2, h1, h2, h3, h4, h5⟩ := h
  exact ⟨hb, S2, S1, h2, h1, fun b hb hc => h3 b hc hb, h5, h4⟩
theorem FourS.grown {w W W' : World} {xb ub yb vb k1 k2 : Nat} {d0 d1 : Int} (h : FourS w xb ub yb vb d0 d1 k1 k2 W) (hb : Below W.heap.size W W') : FourS w xb ub yb vb d0 d1 k1 k2 W' := by
  obtain ⟨h0, S1, S2, h1, h2, h3, h4, h5⟩ := h
  exact ⟨h0.trans (hb.mono h0.size), S1, S2, h1.kept hb.size (fun b hS => hb.block b (h1.lt b hS)), h2.kept hb.size (fun b hS => hb.block b (h2.lt b hS)), h3, h4, h5⟩
theorem FourS.more {w W : World} {xb ub yb vb k1 k2 k1' k2' : Nat} {d0 d1 : Int} (h : FourS w xb ub yb vb d0 d1 k1 k2 W) (e1 : k1 ≤ k1') (e2 : k2 ≤ k2') : FourS w xb ub yb vb d0 d1 k1' k2' W := by
  obtain ⟨h0, S1, S2, h1, h2, h3⟩ := h
  exact ⟨h0, S1, S2, h1.more e1, h2.more e2, h3⟩
/-- one pair was fed -/
theorem four_fed {w W : World} {xb ub yb vb k1 k2 : Nat} {d0 d1 : Int} {pv : Value} {piece : List UInt8} (h : FourS w xb ub yb vb d0 d1 k1 k2 W) (hp : Bytes (fun _ => True) w pv piece) (hk : k1 ≤ 1000000) (hg : ErrT w) :
    Calls Tryd.prog 16 #[.pointer (some ⟨xb, 0, none⟩), .pointer (some ⟨ub, 0, none⟩), pv] W fun e w' => e = .returned (.bool true) ∧ FourS w xb ub yb vb d0 d1 (k1 + 3000) k2 w' := by
  obtain ⟨hb, S1, S2, h1, h2, h3, h4, h5⟩ := h
  have hw0 : 0 < w.heap.size := lt_of_cell hg
  have hp' : Bytes (fun b => ¬ S1 b) W pv piece := ((hp.mono (ok' := fun b => b < w.heap.size) fun b hb _ => hb).keeps (w' := W) fun b o hbl ho _ => (hb.block b hbl).trans ho).mono fun b _ hbl hS => by have := h4 b hS; omega
  refine (fed_any W h1 hp' hk (hg.below hb) hb.size hw0).mono ?_
  rintro e w' ⟨rfl, hb', ⟨S', hS', hSn⟩, hfr⟩
  refine ⟨rfl, hb.trans hb', S', S2, hS', h2.kept hb'.size (fun b hS => hfr b (h2.lt b hS) (fun h => h3 b h hS)), fun b hS hc => ?_, fun b hS => ?_, h5⟩
  · rcases hSn b hS with h | h
    · exact h3 b h hc
    · have := h2.lt b hc; omega
  · rcases hSn b hS with h | h
    · exact h4 b h
    · exact Nat.le_trans hb.size h

set_option maxRecDepth 100000 in
set_option maxHeartbeats 2000000 in
theorem reads_any (d0 d1 : Int) {fv gv : Value} {ls ms : List (List UInt8)} (w : World) (hf : Pieces w fv ls) (hm : Pieces w gv ms) (hg : ErrT w) :
    Calls Tryd.prog 4 #[.agg #[.int .i64 d0, .int .i64 d1], fv, gv] w fun e w' => e = .returned (.bool true) ∧ Below w.heap.size w w' := by
  obtain ⟨w1, hw1⟩ : ∃ w1, w1 = w.alloc (.cells #[.int .i64 d0, .int .i64 d1] 28) := ⟨_, rfl⟩
  have hb1 : Below w.heap.size w w1 := by subst hw1; exact (Below.refl _ w).alloc (Nat.le_refl _) _
  have hx1 : w1.heap[w.heap.size]? = some (.cells #[.int .i64 d0, .int .i64 d1] 28 (0, 0)) := by subst hw1; exact World.alloc_heap_new _ _
  have hlt := lt_of_heap hx1
  have c0 := cell_row (cs := [_, _]) (j := 0) hx1 rfl
  have c1 := cell_row (cs := [_, _]) (j := 1) hx1 rfl
  have HX := Lib.hid (And.intro hb1 (And.intro hx1 hlt))
  have HG := Lib.hid hg
  clear hb1 hx1 hg
  go_enter Tryd.func4, Tryd.ntmps4
  go_upto_region 1 with (fail)
  rw [← hw1]
  clear hw1
  go_cut [7, 8] (fun x y W => ∃ xb yb, x = .pointer (some ⟨xb, 0, none⟩) ∧ y = .pointer (some ⟨yb, 0, none⟩) ∧ Below w1.heap.size w1 W ∧ FreshR W xb d0 ∧ FreshR W yb d1 ∧ xb ≠ yb ∧ w1.heap.size ≤ xb ∧ w1.heap.size ≤ yb)
  case first =>
    go_region_law (first
      | (have HQ := HN1
         (try go_simp)
         go_at_call 14
         refine (new_any d1 _).mono ?_
         rintro e w3 ⟨rfl, hb3, hf3⟩
         replace hb3 : Below w2.heap.size w2 w3 := by first | exact hb3 | exact below_drewB hb3 | exact below_drewB1 hb3
         have HN2 := Lib.hid (And.intro hb3 hf3)
         clear hb3 hf3)
      | ((try go_simp)
         go_at_call 14
         refine (new_any d0 _).mono ?_
         rintro e w2 ⟨rfl, hb2, hf2⟩
         replace hb2 : Below w1.heap.size w1 w2 := by first | exact hb2 | exact below_drewB hb2 | exact below_drewB1 hb2
         have c1b := (hb2.cell (p := ⟨w.heap.size, 1, none⟩) HX.out.2.2).trans c1
         have HN1 := Lib.hid (And.intro hb2 hf2)
         clear hb2 hf2))
    all_goals
      go_wp2_with fail
      go_meet
      case rel =>
        have hl2 := lt_of_heap HN1.out.2
        exact ⟨_, _, rfl, rfl, HN1.out.1.trans (HN2.out.1.mono HN1.out.1.size), (HN2.out.1.block _ hl2).trans HN1.out.2, HN2.out.2, Nat.ne_of_lt hl2, Nat.le_refl _, HN1.out.1.size⟩
  case rest =>
    obtain ⟨xb, yb, rfl, rfl, hbc, hfx, hfy, hne, hxl, hyl⟩ := hcut
    obtain ⟨wn, hwn⟩ : ∃ wn, wn = wc := ⟨_, rfl⟩
    subst hwn
    have c0 := (hbc.cell (p := ⟨w.heap.size, 0, none⟩) HX.out.2.2).trans c0
    have c1 := (hbc.cell (p := ⟨w.heap.size, 1, none⟩) HX.out.2.2).trans c1
    have hltc := Nat.lt_of_lt_of_le HX.out.2.2 hbc.size
    have HC := Lib.hid (And.intro hbc (And.intro hfx (And.intro hfy (And.intro hne (And.intro hxl hyl)))))
    clear hbc hfx hfy hne hxl hyl
    go_upto_region 2 with (fail)
    go_cut [9, 10] (fun x y W => ∃ ub vb, x = .pointer (some ⟨ub, 0, none⟩) ∧ y = .pointer (some ⟨vb, 0, none⟩) ∧ Below wn.heap.size wn W ∧ W.heap[ub]? = some (.cells #[.int .i64 d0, .slice none 0 0, .int .i64 0, .int .i64 0, .int .i64 (-1)] 91 (0, 0)) ∧ W.heap[vb]? = some (.cells #[.int .i64 d1, .slice none 0 0, .int .i64 0, .int .i64 0, .int .i64 (-1)] 91 (0, 0)) ∧ ub ≠ vb ∧ wn.heap.size ≤ ub ∧ wn.heap.size ≤ vb)
    case first =>
      go_region_law (first
        | (have HQ := HN1
           (try go_simp)
           go_at_call 15
           refine (RNew_any d1 _).mono ?_
           rintro e w3 ⟨rfl, hb3, hf3⟩
           replace hb3 : Below w2.heap.size w2 w3 := by first | exact hb3 | exact below_drewB hb3 | exact below_drewB1 hb3
           have HN2 := Lib.hid (And.intro hb3 hf3)
           clear hb3 hf3)
        | ((try go_simp)
           go_at_call 15
           refine (RNew_any d0 _).mono ?_
           rintro e w2 ⟨rfl, hb2, hf2⟩
           replace hb2 : Below wn.heap.size wn w2 := by first | exact hb2 | exact below_drewB hb2 | exact below_drewB1 hb2
           have c1b := (hb2.cell (p := ⟨w.heap.size, 1, none⟩) hltc).trans c1
           have HN1 := Lib.hid (And.intro hb2 hf2)
           clear hb2 hf2))
      all_goals
        go_wp2_with fail
        go_meet
        case rel =>
          have hl2 := lt_of_heap HN1.out.2
          exact ⟨_, _, rfl, rfl, HN1.out.1.trans (HN2.out.1.mono HN1.out.1.size), (HN2.out.1.block _ hl2).trans HN1.out.2, HN2.out.2, Nat.ne_of_lt hl2, Nat.le_refl _, HN1.out.1.size⟩
    case rest =>
      obtain ⟨ub, vb, rfl, rfl, hbd, hfu, hfv, hne2, hul, hvl⟩ := hcut
      have hb0d : Below w.heap.size w wc := (HX.out.1.trans (HC.out.1.mono (Nat.le_of_lt HX.out.2.2))).trans (hbd.mono (Nat.le_trans (Nat.le_of_lt HX.out.2.2) HC.out.1.size))
      have hxc := lt_of_heap HC.out.2.1
      have hyc := lt_of_heap HC.out.2.2.1
      have hw1w : w.heap.size ≤ w1.heap.size := Nat.le_of_lt HX.out.2.2
      have hfx : FreshR wc xb d0 := (hbd.block _ hxc).trans HC.out.2.1
      have hfy : FreshR wc yb d1 := (hbd.block _ hyc).trans HC.out.2.2.1
      have hxu : w.heap.size ≤ xb ∧ w.heap.size ≤ yb ∧ w.heap.size ≤ ub ∧ w.heap.size ≤ vb := by have := HC.out.2.2.2.2.1; have := HC.out.2.2.2.2.2; have := HC.out.1.size; omega
      have hne3 := HC.out.2.2.2.1
      have HF : Hid (FourS w xb ub yb vb d0 d1 0 0 wc) := Lib.hid ⟨hb0d, fun b => b = xb ∨ b = ub, fun b => b = yb ∨ b = vb, PairS.new hfx hfu hxu.1 hxu.2.2.1 (by omega), PairS.new hfy hfv hxu.2.1 hxu.2.2.2 (by omega), by rintro b (rfl | rfl) (h | h) <;> omega, by rintro b (rfl | rfl) <;> omega, by rintro b (rfl | rfl) <;> omega⟩
      obtain ⟨fvs, hfs, hfe⟩ := hf
      obtain ⟨gvs, hgs, hge⟩ := hm
      obtain ⟨FA, fc, rfl, hfc, hfl, hfr⟩ := hfs
      obtain ⟨GA, gc, rfl, hgc, hgl, hgr⟩ := hgs
      have HFE := Lib.hid (And.intro hfr (And.intro hfe (And.intro hgr hge)))
      clear hfr hfe hgr hge hbd hfu hfv hne2 hul hvl hb0d hxc hyc hfx hfy hne3 c0 c1 hltc HC
      go_wp2_with fail
      go_loopw [11] (fun i W => ∃ k : Nat, k ≤ 60 ∧ i = .int .i64 k ∧ Hid (FourS w xb ub yb vb d0 d1 (3000 * k) (3000 * k) W)) (fun i _ => 60 - (intOf i).toNat)
      case atStart => exact ⟨0, by omega, rfl, HF⟩
      case round =>
        obtain ⟨k, hk, rfl, HS⟩ := hrel
        by_cases h60 : (k : Int) < 60
        · by_cases h1 : k < ls.length
          · have h1i : (k : Int) < (ls.length : Int) := by omega
            obtain ⟨pv1, hpv1, hpb1⟩ := HFE.out.2.1.at k (ls[k]) (List.getElem?_eq_getElem h1)
            obtain ⟨b1, o1, rfl, _, hbl1, hce1⟩ := HFE.out.1.at (by rintro rfl; simp at hpv1)
            have HC1 := Lib.hid (And.intro hbl1 (And.intro (hce1 k _ hpv1) hpb1))
            have cc1 := (HS.out.1.cell (p := ⟨b1, o1 + k, none⟩) hbl1).trans (hce1 k _ hpv1)
            clear hpv1 hpb1 hbl1 hce1
            by_cases h2 : k < ms.length
            · have h2i : (k : Int) < (ms.length : Int) := by omega
              obtain ⟨pv2, hpv2, hpb2⟩ := HFE.out.2.2.2.at k (ms[k]) (List.getElem?_eq_getElem h2)
              obtain ⟨b2, o2, rfl, _, hbl2, hce2⟩ := HFE.out.2.2.1.at (by rintro rfl; simp at hpv2)
              have HC2 := Lib.hid (And.intro hbl2 (And.intro (hce2 k _ hpv2) hpb2))
              have cc2 := (HS.out.1.cell (p := ⟨b2, o2 + k, none⟩) hbl2).trans (hce2 k _ hpv2)
              clear hpv2 hpb2 hbl2 hce2
              go_wp2_with fail
              refine (four_fed HS.out HC1.out.2.2 (by omega) HG.out).mono ?_
              rintro e wq ⟨rfl, hq⟩
              have HQ := Lib.hid hq
              clear hq
              have cc2 := (HQ.out.1.cell (p := ⟨b2, o2 + k, none⟩) HC2.out.1).trans HC2.out.2.1
              go_wp2_with fail
              refine (four_fed HQ.out.swap HC2.out.2.2 (by omega) HG.out).mono ?_
              rintro e wq2 ⟨rfl, hq⟩
              have HQ2 := Lib.hid hq.swap
              clear hq HQ
              obtain ⟨hbw, S1, S2, hp1, hp2, hrst⟩ := HQ2.out
              obtain ⟨all, next, count, bad, bp, t1, t2, tn, _⟩ := hp1
              have HT := Lib.hid (And.intro t1 t2)
              have hb8 : Below wq2.heap.size wq2 wq2 := Below.refl _ _
              clear hbw hp2 hrst t1 t2
              go_wp2_with fail
              refine (Waiting_any wq2 HT.out.1).mono ?_
              rintro e w' ⟨rfl, rfl⟩
              go_wp2_with fail
              refine (RWaiting_any wq2 HT.out.2 tn.1 (by omega)).mono ?_
              rintro e w' ⟨rfl, nn, rfl⟩
              have hwe : (((all.drop next).length : Int) != ((all.length - next : Nat) : Int)) = false := by rw [List.length_drop]; simp
              have HB7 := Lib.hid (below_drewN (Below.refl wq2.heap.size wq2) nn)
              have hce : ((count : Int) != (count : Int)) = false := by simp
              go_wp2_with fail
              refine (Count_any _ (HT.out.1.below HB7.out)).mono ?_
              rintro e w' ⟨rfl, rfl⟩
              go_wp2_with fail
              refine (RCount_any _ (HT.out.2.below HB7.out)).mono ?_
              rintro e w' ⟨rfl, rfl⟩
              go_wp2
              go_roundw
              · exact ⟨k + 1, by omega, by simp, Lib.hid (FourS.grown (HQ2.out.more (by omega) (by omega)) HB7.out)⟩
              · simp [intOf]; omega
            · have h2i : ¬ (k : Int) < (ms.length : Int) := by omega
              go_wp2_with fail
              refine (four_fed HS.out HC1.out.2.2 (by omega) HG.out).mono ?_
              rintro e wq ⟨rfl, hq⟩
              have HQ := Lib.hid hq
              clear hq
              obtain ⟨hbw, S1, S2, hp1, hp2, hrst⟩ := HQ.out
              obtain ⟨all, next, count, bad, bp, t1, t2, tn, _⟩ := hp1
              have HT := Lib.hid (And.intro t1 t2)
              have hb8 : Below wq.heap.size wq wq := Below.refl _ _
              clear hbw hp2 hrst t1 t2
              go_wp2_with fail
              refine (Waiting_any wq HT.out.1).mono ?_
              rintro e w' ⟨rfl, rfl⟩
              go_wp2_with fail
              refine (RWaiting_any wq HT.out.2 tn.1 (by omega)).mono ?_
              rintro e w' ⟨rfl, nn, rfl⟩
              have hwe : (((all.drop next).length : Int) != ((all.length - next : Nat) : Int)) = false := by rw [List.length_drop]; simp
              have HB7 := Lib.hid (below_drewN (Below.refl wq.heap.size wq) nn)
              have hce : ((count : Int) != (count : Int)) = false := by simp
              go_wp2_with fail
              refine (Count_any _ (HT.out.1.below HB7.out)).mono ?_
              rintro e w' ⟨rfl, rfl⟩
              go_wp2_with fail
              refine (RCount_any _ (HT.out.2.below HB7.out)).mono ?_
              rintro e w' ⟨rfl, rfl⟩
              go_wp2
              go_roundw
              · exact ⟨k + 1, by omega, by simp, Lib.hid (FourS.grown (HQ.out.more (by omega) (by omega)) HB7.out)⟩
              · simp [intOf]; omega
          · have h1i : ¬ (k : Int) < (ls.length : Int) := by omega
            by_cases h2 : k < ms.length
            · have h2i : (k : Int) < (ms.length : Int) := by omega
              obtain ⟨pv2, hpv2, hpb2⟩ := HFE.out.2.2.2.at k (ms[k]) (List.getElem?_eq_getElem h2)
              obtain ⟨b2, o2, rfl, _, hbl2, hce2⟩ := HFE.out.2.2.1.at (by rintro rfl; simp at hpv2)
              have HC2 := Lib.hid (And.intro hbl2 (And.intro (hce2 k _ hpv2) hpb2))
              have cc2 := (HS.out.1.cell (p := ⟨b2, o2 + k, none⟩) hbl2).trans (hce2 k _ hpv2)
              clear hpv2 hpb2 hbl2 hce2
              go_wp2_with fail
              refine (four_fed HS.out.swap HC2.out.2.2 (by omega) HG.out).mono ?_
              rintro e wq ⟨rfl, hq⟩
              have HQ := Lib.hid hq.swap
              clear hq
              obtain ⟨hbw, S1, S2, hp1, hp2, hrst⟩ := HQ.out
              obtain ⟨all, next, count, bad, bp, t1, t2, tn, _⟩ := hp1
              have HT := Lib.hid (And.intro t1 t2)
              have hb8 : Below wq.heap.size wq wq := Below.refl _ _
              clear hbw hp2 hrst t1 t2
              go_wp2_with fail
              refine (Waiting_any wq HT.out.1).mono ?_
              rintro e w' ⟨rfl, rfl⟩
              go_wp2_with fail
              refine (RWaiting_any wq HT.out.2 tn.1 (by omega)).mono ?_
              rintro e w' ⟨rfl, nn, rfl⟩
              have hwe : (((all.drop next).length : Int) != ((all.length - next : Nat) : Int)) = false := by rw [List.length_drop]; simp
              have HB7 := Lib.hid (below_drewN (Below.refl wq.heap.size wq) nn)
              have hce : ((count : Int) != (count : Int)) = false := by simp
              go_wp2_with fail
              refine (Count_any _ (HT.out.1.below HB7.out)).mono ?_
              rintro e w' ⟨rfl, rfl⟩
              go_wp2_with fail
              refine (RCount_any _ (HT.out.2.below HB7.out)).mono ?_
              rintro e w' ⟨rfl, rfl⟩
              go_wp2
              go_roundw
              · exact ⟨k + 1, by omega, by simp, Lib.hid (FourS.grown (HQ.out.more (by omega) (by omega)) HB7.out)⟩
              · simp [intOf]; omega
            · have h2i : ¬ (k : Int) < (ms.length : Int) := by omega
              go_wp2_with fail
              go_ret
              exact ⟨rfl, HS.out.1⟩
        · go_wp2_with fail
          go_ret
          exact ⟨rfl, HS.out.1⟩
end
end Go.Proofs.YtlffgepnhhnadaaDoor.Pl
