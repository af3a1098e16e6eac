/- plumbref17's points, walked: a pair, pairs, a spot. plumbref17's geometry: what its walk keeps, and its law's parts. -/
import Derived.Test.YtlffgepnhhnadaaGreatDoorRfA
namespace Go.Proofs.YtlffgepnhhnadaaGreatDoor.Pl
section
open Go.RowKit
variable {oc oc0 : Nat}

theorem Tryz.infoP2 : (Tryz.prog.info? 63).map (·.size) = some 2 := by kernel_rfl
theorem rtwo_set {V W : World} {g : Nat} {z0 z1 : Value} {t : TypeId} (hg : V.heap[g]? = some (.cells #[z0, z1] t (0, 0))) (x0 x1 : Value) (hW : W = (V.setCell ⟨g, 0, none⟩ x0).setCell ⟨g, 1, none⟩ x1) : W.heap[g]? = some (.cells #[x0, x1] t (0, 0)) ∧ V.grownBy W (some g) := by
  have r1 := heap_store (cs := [z0, z1]) hg (j := 0) x0
  have r2 := heap_store (cs := [x0, z1]) (by simpa using r1) (j := 1) x1
  rw [← hW] at r2
  refine ⟨by simpa using r2, ?_⟩
  rw [hW]
  exact grown_trans (grownBy_set V ⟨g, 0, none⟩ _) (grownBy_set _ ⟨g, 1, none⟩ _)
theorem StepW.made {B wb : Nat} {w w' : World} (hlt : wb < w.heap.size) (hb : Below w.heap.size w w') (hB : B ≤ w.heap.size) : StepW B wb w w' := ⟨.of_below hlt hb, hb.mono hB⟩

set_option maxRecDepth 100000 in
theorem pair_any {B wb at_ : Nat} {v : Value} {l : List UInt8} {deep : Int} (little : Bool) (w : World) (h : IsWk B w wb v l at_ deep none oc) (hB : B ≤ w.heap.size) (hl : at_ + 16 ≤ l.length) :
    Calls Tryz.prog 98 #[.pointer (some ⟨wb, 0, none⟩), .bool little] w
      (WPost B w wb v l deep (fun p u _ => PtOk p ∧ u = .agg #[.int .u64 p.1, .int .u64 p.2]) ((ptR l little at_).map fun p => (p, at_ + 16))) := by
  obtain ⟨w1, hw1⟩ : ∃ w1, w1 = w.alloc (.cells #[.int .u64 0, .int .u64 0] 63) := ⟨_, rfl⟩
  have hb1 : Below w.heap.size w w1 := by subst hw1; exact (Below.refl _ w).alloc (Nat.le_refl _) _
  have hx1 : w1.heap[w.heap.size]? = some (.cells #[.int .u64 0, .int .u64 0] 63 (0, 0)) := by subst hw1; exact World.alloc_heap_new _ _
  have h1 := h.below hb1
  have s1 := StepW.made h.lt hb1 hB
  have a1 := h.apt hb1 _ (Nat.le_refl _) (lt_of_heap hx1)
  have c1 := h1.c1
  have hd := h.len
  have hx64 := wd_lt l at_ 8 little
  have hy64 := wd_lt l (at_ + 8) 8 little
  have HN := Lib.hid (num_got 8 little w1 h1 (by omega) (by omega))
  have HN2 := Lib.hid (fun W (hW : IsWk B W wb v l (at_ + 8) deep none oc) => num_got 8 little W hW (by omega) (by omega))
  have HR1 : Hid (3 ≤ cls (wd l at_ 8 little) → ptR l little at_ = .error ((at_ : Int), 175)) := Lib.hid fun hc => by simp [ptR, numR, hc]
  have HR2 : Hid (¬ 3 ≤ cls (wd l at_ 8 little) → 3 ≤ cls (wd l (at_ + 8) 8 little) → ptR l little at_ = .error ((at_ : Int) + 8, 175)) := Lib.hid fun hc hc2 => by simp [ptR, numR, hc, hc2]
  have HR3 : Hid (¬ 3 ≤ cls (wd l at_ 8 little) → ¬ 3 ≤ cls (wd l (at_ + 8) 8 little) → ptR l little at_ = .ok (wd l at_ 8 little, wd l (at_ + 8) 8 little)) := Lib.hid fun hc hc2 => by simp [ptR, numR, hc, hc2]
  generalize wd l at_ 8 little = x at hx64 HN HR1 HR2 HR3
  generalize wd l (at_ + 8) 8 little = y at hy64 HN2 HR2 HR3
  have HX := Lib.hid (fun W => rfin_any x W (by simpa using hx64))
  have HY := Lib.hid (fun W => rfin_any y W (by simpa using hy64))
  have H := Lib.hid (And.intro h (And.intro s1 (And.intro a1 hx1)))
  have HE : Hid (∀ (V : World) (er : Option PErr) (a : Nat) (x0 x1 : Nat), IsWk B V wb v l a deep er oc → StepW B wb w1 V → IsWk B ((V.setCell ⟨w.heap.size, 0, none⟩ (.int .u64 x0)).setCell ⟨w.heap.size, 1, none⟩ (.int .u64 x1)) wb v l a deep er oc ∧ StepW B wb w ((V.setCell ⟨w.heap.size, 0, none⟩ (.int .u64 x0)).setCell ⟨w.heap.size, 1, none⟩ (.int .u64 x1)) ∧
      ((V.setCell ⟨w.heap.size, 0, none⟩ (.int .u64 x0)).setCell ⟨w.heap.size, 1, none⟩ (.int .u64 x1)).heap[w.heap.size]? = some (.cells #[.int .u64 x0, .int .u64 x1] 63 (0, 0))) := Lib.hid fun V er a x0 x1 hV hs => by
    obtain ⟨k1, k2⟩ := hs.1 _ H.out.2.2.1
    obtain ⟨q1, q2⟩ := rtwo_set (k1.trans H.out.2.2.2) (.int .u64 x0) (.int .u64 x1) rfl
    obtain ⟨o1, o2, _, _⟩ := IsWk.other H.out.1 (H.out.2.1.trans hs) hV (some w.heap.size) q2 (fun g hg => by cases hg; exact ⟨Nat.le_refl _, k2⟩) hB
    exact ⟨o1, o2, q1⟩
  have HZ : Hid (∀ V, StepW B wb w1 V → (V.cell? ⟨w.heap.size, 0, none⟩ = some (.int .u64 0) ∧ V.cell? ⟨w.heap.size, 1, none⟩ = some (.int .u64 0)) ∧ V.frozen? ⟨w.heap.size, 0, none⟩ = false ∧ V.frozen? ⟨w.heap.size, 1, none⟩ = false) := Lib.hid fun V hs => by
    have k1 := (hs.1 _ H.out.2.2.1).1.trans H.out.2.2.2
    exact ⟨⟨cell_row (cs := [_, _]) (j := 0) k1 rfl, cell_row (cs := [_, _]) (j := 1) k1 rfl⟩, frozen_row (cs := [_, _]) k1 0, frozen_row (cs := [_, _]) k1 1⟩
  clear h h1 s1 a1 hx1 hb1
  go_enter Tryz.func98, Tryz.ntmps98
  go_upto_region 1 with (fail)
  rw [← hw1]
  clear hw1
  go_wp2_with fail
  refine HN.out.mono ?_
  rintro e w2 ⟨rfl, h2, s2⟩
  have c3 : w2.cell? ⟨wb, 3, none⟩ = some (.int .i64 0) := h2.c3
  have H2 := Lib.hid (And.intro h2 s2)
  clear h2 s2 HN
  by_cases hx : 3 ≤ cls x
  · have hdx : decide (cls x < 3) = false := decide_eq_false (by omega)
    rw [hdx] at HX
    have HRR := Lib.hid (HR1.out hx)
    go_wp2_with fail
    refine (HX.out _).mono ?_
    rintro e w' ⟨rfl, rfl⟩
    go_wp2_with fail
    refine (fault_any (at_ : Int) 175 w2 H2.out.1 (by decide)).mono ?_
    rintro e w3 ⟨rfl, h3, s3⟩
    have c3 : w3.cell? ⟨wb, 3, none⟩ = some (.int .i64 175) := h3.c3
    have H3 := Lib.hid (And.intro h3 (H2.out.2.trans s3))
    clear h3 s3
    go_wp2_with fail
    refine (num_dead 8 little w3 H3.out.1).mono ?_
    rintro e w' ⟨rfl, rfl⟩
    obtain ⟨⟨z0, z1⟩, f0, f1⟩ := HZ.out _ H3.out.2
    go_wp2
    obtain ⟨q1, q2, q3⟩ := HE.out w3 _ _ x 0 H3.out.1 H3.out.2
    refine bodyPost_ret (v := .agg #[.int .u64 x, .int .u64 0]) ?_ rfl ?_
    · refine results_cell_row (p := 4) (ty := 63) Tryz.results98 _ _ w.heap.size _ _ _ _ ?_ q3 Tryz.underlying63 rfl Tryz.infoP2
      rfl
    exact ⟨(x, 0), _, _, _, _, rfl, ⟨⟨by simpa using hx64, by simp⟩, rfl⟩, q1, q2, by rw [HRR.out]; rfl⟩
  have hdx : decide (cls x < 3) = true := decide_eq_true (by omega)
  rw [hdx] at HX
  go_wp2_with fail
  refine (HX.out _).mono ?_
  rintro e w' ⟨rfl, rfl⟩
  go_wp2_with fail
  refine (HN2.out w2 H2.out.1).mono ?_
  rintro e w3 ⟨rfl, h3, s3⟩
  have c3 : w3.cell? ⟨wb, 3, none⟩ = some (.int .i64 0) := h3.c3
  have H3 := Lib.hid (And.intro h3 (H2.out.2.trans s3))
  clear h3 s3
  by_cases hy : 3 ≤ cls y
  · have hdy : decide (cls y < 3) = false := decide_eq_false (by omega)
    rw [hdy] at HY
    have HRR := Lib.hid (HR2.out (by omega) (by omega))
    go_wp2_with fail
    refine (HY.out _).mono ?_
    rintro e w' ⟨rfl, rfl⟩
    go_wp2_with fail
    refine (fault_any ((at_ : Int) + 8) 175 w3 H3.out.1 (by decide)).mono ?_
    rintro e w4 ⟨rfl, h4, s4⟩
    have H4 := Lib.hid (And.intro h4 (H3.out.2.trans s4))
    clear h4 s4
    obtain ⟨⟨z0, z1⟩, f0, f1⟩ := HZ.out _ H4.out.2
    go_wp2
    obtain ⟨q1, q2, q3⟩ := HE.out w4 _ _ x y H4.out.1 H4.out.2
    refine bodyPost_ret (v := .agg #[.int .u64 x, .int .u64 y]) ?_ rfl ?_
    · refine results_cell_row (p := 4) (ty := 63) Tryz.results98 _ _ w.heap.size _ _ _ _ ?_ q3 Tryz.underlying63 rfl Tryz.infoP2
      rfl
    exact ⟨(x, y), _, _, _, _, rfl, ⟨⟨by simpa using hx64, by simpa using hy64⟩, rfl⟩, q1, q2, by rw [HRR.out]; rfl⟩
  · have hdy : decide (cls y < 3) = true := decide_eq_true (by omega)
    rw [hdy] at HY
    have HRR := Lib.hid (HR3.out (by omega) (by omega))
    go_wp2_with fail
    refine (HY.out _).mono ?_
    rintro e w' ⟨rfl, rfl⟩
    obtain ⟨⟨z0, z1⟩, f0, f1⟩ := HZ.out _ H3.out.2
    go_wp2
    obtain ⟨q1, q2, q3⟩ := HE.out w3 _ _ x y H3.out.1 H3.out.2
    refine bodyPost_ret (v := .agg #[.int .u64 x, .int .u64 y]) ?_ rfl ?_
    · refine results_cell_row (p := 4) (ty := 63) Tryz.results98 _ _ w.heap.size _ _ _ _ ?_ q3 Tryz.underlying63 rfl Tryz.infoP2
      rfl
    exact ⟨(x, y), _, _, _, _, rfl, ⟨⟨by simpa using hx64, by simpa using hy64⟩, rfl⟩, q1, q2, by rw [HRR.out]; exact ⟨rfl, by show _ = at_ + 16; omega, rfl⟩⟩

theorem list_appendP {w : World} {ops : Array Oper} {rest : List Oper} {o : Oper} {a : Act} {Q : Exit → Act → World → Prop} (hgd : o.guard = none) (s x : Operand)
    (ho : o.op = .call { callee := .builtin .append, args := #[s, x], argTypes := #[23, 23] }) {B yb : Nat} (v : Value) {p : Pt} {ps : List Pt} (hs : a.eval s = v) (hx : a.eval x = .slice (some ⟨yb, 0, none⟩) 1 1) (hv : w.ownsRow B 63 2 v ps.length (ptCells ps))
    (hy : w.heap[yb]? = some (.cells #[.int .u64 p.1, .int .u64 p.2] 63 (0, 0))) (hl : (ps.length + 1) * 16 ≤ 140737488355328) (hB : B ≤ w.heap.size)
    (h : ∀ g cap w', w'.ownsRow B 63 2 (.slice (some ⟨g, 0, none⟩) (ps.length + 1) cap) (ps.length + 1) (ptCells (ps ++ [p])) → w.grownBy w' v.ownBlock → (v.ownBlock = some g ∨ g = w.heap.size) → g < w'.heap.size → wpList Tryz.prog ops Q rest (a.put o.dst (.slice (some ⟨g, 0, none⟩) (ps.length + 1) cap)) w') :
    wpList Tryz.prog ops Q (o :: rest) a w := by
  obtain ⟨i0, hi, hz0, hz1, hz2⟩ := info_parts Tryz.info71x
  refine wpList_append_lies w hgd s x 23 ho B 63 i0 (.agg #[.int .u64 0, .int .u64 0]) 2 16 Tryz.under48x hi hz0 hz1 hz2 rfl (by decide) v ps.length (ptCells ps) hs hv ⟨yb, 0, none⟩ 1 1 [.int .u64 p.1, .int .u64 p.2] hx rfl ?_ (by simp [Value.oneCell']) (by omega) (by unfold maxLen; omega) hl hB w.heap.size rfl ?_
  · intro j u hj
    rw [add0]; exact cell_row (cs := [_, _]) hy hj
  · intro g cap w' h2 h3 h4 h5
    refine h g cap w' ?_ h3 h4 h5
    rw [ptCells_append]; exact h2

/-- a list that a loop grows, in a row of its own that the walk does not write -/
structure OwnW (B0 : Nat) (w : World) (wb : Nat) (t : TypeId) (sz : Nat) (sv : Value) (n : Nat) (vs : List Value) : Prop where
  own : w.ownsRow B0 t sz sv n vs
  apt : ∀ g, sv.ownBlock = some g → AptW w wb g
theorem OwnW.nil (B0 : Nat) (w : World) (wb : Nat) (t : TypeId) (sz : Nat) : OwnW B0 w wb t sz (.slice none 0 0) 0 [] := ⟨⟨by simp, .inl ⟨rfl, rfl⟩⟩, fun g hg => by cases hg⟩
theorem OwnW.keep {B0 wb sz n : Nat} {t : TypeId} {w w' : World} {sv : Value} {vs : List Value} (h : OwnW B0 w wb t sz sv n vs) (k : KeepW wb w w') : OwnW B0 w' wb t sz sv n vs := by
  obtain ⟨h0, h1⟩ := h.own
  refine ⟨⟨h0, h1.imp id ?_⟩, fun g hg => (k g (h.apt g hg)).2⟩
  rintro ⟨g, cap, cur, hv, hb, hg, rest⟩
  exact ⟨g, cap, cur, hv, hb, (k g (h.apt g (by rw [hv]; rfl))).1.trans hg, rest⟩
/-- as a slice -/
theorem OwnW.sl {B0 wb sz n : Nat} {t : TypeId} {w : World} {sv : Value} {vs : List Value} (h : OwnW B0 w wb t sz sv n vs) (hn : n ≤ 140737488355328) : Sl (fun b => AptW w wb b ∧ B0 ≤ b) w sv n vs := by
  obtain ⟨h0, ⟨rfl, h2⟩ | ⟨g, cap, cur, hv, hb, hg, h3, h4, h5, h6⟩⟩ := h.own
  · subst h2
    refine ⟨_, _, rfl, Nat.le_refl _, hn, .inl ?_⟩
    exact List.eq_nil_of_length_eq_zero (by simpa using h0)
  · refine ⟨_, _, hv, h3, hn, .inr ⟨g, 0, rfl, ⟨h.apt g (by rw [hv]; rfl), hb⟩, fun i c hc => ?_⟩⟩
    have := World.ownsRow.cells h.own (g := g) (by rw [hv]; rfl) i c hc
    rw [add0] at this
    rw [Nat.zero_add]; exact this
/-- behind an append -/
theorem OwnW.grow {B wb a0 a sz n n' g cap B0 : Nat} {w1 W W' W3 : World} {v sv : Value} {l : List UInt8} {deep : Int} {er0 er : Option PErr} {t : TypeId} {vs vs' : List Value} (h1 : IsWk B w1 wb v l a0 deep er0 oc0) (hk : StepW B wb w1 W) (h : IsWk B W wb v l a deep er oc) (ho : OwnW B0 W wb t sz sv n vs)
    (hal : Below W.heap.size W W') (ho3 : W3.ownsRow B0 t sz (.slice (some ⟨g, 0, none⟩) n' cap) n' vs') (hgr : W'.grownBy W3 sv.ownBlock) (hg : sv.ownBlock = some g ∨ g = W'.heap.size) (hgl : g < W3.heap.size) (hBw : B ≤ w1.heap.size) (hB0 : w1.heap.size ≤ B0) :
    IsWk B W3 wb v l a deep er oc ∧ StepW B wb w1 W3 ∧ OwnW B0 W3 wb t sz (.slice (some ⟨g, 0, none⟩) n' cap) n' vs' ∧ ∀ b, AptW W wb b → sv.ownBlock ≠ some b → W3.heap[b]? = W.heap[b]? ∧ AptW W3 wb b ∧ g ≠ b := by
  have hg0 : W.grownBy W3 sv.ownBlock := ⟨hgr.os.trans hal.os, hgr.tape.trans hal.tape, hgr.output.trans hal.output, Nat.le_trans hal.size hgr.size, fun b hb hn => (hgr.block b (Nat.lt_of_lt_of_le hb hal.size) hn).trans (hal.block b hb)⟩
  obtain ⟨o1, o2, o3, o4⟩ := IsWk.other h1 hk h sv.ownBlock hg0 (fun b hb => ⟨Nat.le_trans hB0 (World.ownsRow.lt ho.own b hb).1, ho.apt b hb⟩) hBw
  refine ⟨o1, o2, ⟨ho3, fun b hb => ?_⟩, fun b hb hn => ⟨hg0.block b hb.1 (fun e => hn e.symm), o3 b hb, fun e => ?_⟩⟩
  · cases hb
    rcases hg with hg | hg
    · exact o3 g (ho.apt g hg)
    · exact o4 g (by have := hal.size; omega) hgl
  · subst e
    rcases hg with hg | hg
    · exact hn hg
    · have := hal.size; have := hb.1; omega

/-- what the loop over pairs keeps -/
def PairsI (B : Nat) (w : World) (wb : Nat) (v : Value) (l : List UInt8) (at_ : Nat) (deep : Int) (little : Bool) (n k : Nat) (sv : Value) (W : World) : Prop := ∃ (acc : List Pt) (a : Nat) (er : Option PErr) (oc : Nat), acc.length = k ∧ (∀ p ∈ acc, PtOk p) ∧
  OwnW w.heap.size W wb 63 2 sv k (ptCells acc) ∧ IsWk B W wb v l a deep er oc ∧ StepW B wb w W ∧
  match er with
  | none => manyK (fun a => (ptR l little a).map fun p => (p, a + 16)) n at_ acc (n - k) (at_ + 16 * k) ∧ a = at_ + 16 * k
  | some e => ptsR l little n at_ = .error e

theorem pairs_dead {B wb at_ : Nat} {v : Value} {l : List UInt8} {deep : Int} {er : PErr} (little : Bool) (n : Int) (w : World) (h : IsWk B w wb v l at_ deep (some er) oc) :
    Calls Tryz.prog 80 #[.pointer (some ⟨wb, 0, none⟩), .bool little, .int .i64 n] w fun e w' => e = .returned (.slice none 0 0) ∧ w = w' := by
  have c3 := h.c3
  have hnz := h.nz er rfl
  simp only [erC] at c3
  have hb : (er.2 == 0) = false := by simpa using hnz
  clear h
  generalize er.2 = c at *
  go_enter Tryz.func80, Tryz.ntmps80
  go_wp2_with fail
  go_loopw [7, 8] (fun x i W => x = .slice none 0 0 ∧ i = .int .i64 0 ∧ W = w) (fun _ _ _ => 0)
  case atStart => exact ⟨rfl, rfl, rfl⟩
  case round =>
    obtain ⟨rfl, rfl, rfl⟩ := hrel
    by_cases hn : 0 < n
    · go_wp2
      go_ret
      exact ⟨rfl, rfl⟩
    · go_wp2
      go_ret
      exact ⟨rfl, rfl⟩

set_option maxRecDepth 100000 in
theorem pairs_any {B wb at_ : Nat} {v : Value} {l : List UInt8} {deep : Int} (little : Bool) (n : Nat) (w : World) (h : IsWk B w wb v l at_ deep none oc) (hB : B ≤ w.heap.size) (hl : at_ + 16 * n ≤ l.length) :
    Calls Tryz.prog 80 #[.pointer (some ⟨wb, 0, none⟩), .bool little, .int .i64 n] w
      (WPost B w wb v l deep (fun x u w' => Pts (NewW w w' wb) w' u x) (ptsR l little n at_)) := by
  have hd := h.len
  have H := Lib.hid h
  clear h
  go_enter Tryz.func80, Tryz.ntmps80
  go_wp2_with fail
  go_loopw [7, 8] (fun x i W => ∃ k : Nat, k ≤ n ∧ i = .int .i64 k ∧ Hid (PairsI B w wb v l at_ deep little n k x W)) (fun _ i _ => n - (intOf i).toNat)
  case atStart => exact ⟨0, Nat.zero_le _, rfl, [], at_, none, _, rfl, by simp, OwnW.nil _ _ _ _ _, H.out, .refl _ _ _, manyK_start _ _ _, rfl⟩
  case round =>
    obtain ⟨k, hk, rfl, acc, a, er, oc1, hal, hao, how, hwk, hst, hrel⟩ := hrel
    subst hal
    have hpts : Pts (NewW w wr wb) wr u7 acc := ⟨hao, how.sl (by omega)⟩
    cases er with
    | some e =>
      have c3 := hwk.c3
      have hnz := hwk.nz e rfl
      simp only [erC] at c3
      have hb : (e.2 == 0) = false := by simpa using hnz
      have HE : Hid (WPost B w wb v l deep (fun x u w' => Pts (NewW w w' wb) w' u x) (ptsR l little n at_) (.returned u7) wr) := Lib.hid ⟨acc, _, a, some e, _, rfl, hpts, hwk, hst, by rw [show ptsR l little n at_ = .error e from hrel]⟩
      clear how hwk hst hrel hpts hao
      generalize e.2 = c at *
      by_cases hkn : acc.length < n
      · go_wp2
        go_ret
        exact HE.out
      · go_wp2
        go_ret
        exact HE.out
    | none =>
      have c3 : wr.cell? ⟨wb, 3, none⟩ = some (.int .i64 0) := hwk.c3
      obtain ⟨hmk, rfl⟩ := hrel
      by_cases hkn : acc.length < n
      · obtain ⟨m, hm⟩ : ∃ m, n - acc.length = m + 1 := ⟨n - acc.length - 1, by omega⟩
        rw [hm] at hmk
        have HP := Lib.hid (pair_any little wr hwk (Nat.le_trans hB hst.2.size) (by omega))
        have HM := Lib.hid hmk
        have HS := Lib.hid (And.intro how (And.intro hst hao))
        clear how hwk hst hmk hpts hao
        go_wp2_with fail
        refine HP.out.mono ?_
        rintro e w2 ⟨p, u, a2, er2, oc2, rfl, ⟨hpo, rfl⟩, hwk2, hst2, hm2⟩
        have HW := Lib.hid (And.intro hwk2 (And.intro hst2 (And.intro hm2 hpo)))
        have HAL := Lib.hid ((Below.refl w2.heap.size w2).alloc (Nat.le_refl _) (.cells #[.int .u64 p.1, .int .u64 p.2] 63))
        have HNW : Hid ((w2.alloc (.cells #[.int .u64 p.1, .int .u64 p.2] 63)).heap[w2.heap.size]? = _) := Lib.hid (World.alloc_heap_new _ _)
        have HOW := Lib.hid (HS.out.1.keep hst2.1)
        have hsz : w.heap.size ≤ w2.heap.size := Nat.le_trans HS.out.2.1.2.size hst2.2.size
        clear hwk2 hst2 hm2 hpo
        go_wp2_with (first
          | (refine (list_appendP (p := p) (ps := acc) rfl (.tmp 21) (.tmp 25) rfl u7 (by rfl) (by rfl) (ownsRow_below HOW.out.own HAL.out) HNW.out (by omega) (Nat.le_trans hsz HAL.out.size) ?_)
             intro g3 cap3 w4 ho3 hgr3 hg3 hlt3
             have HR3 := Lib.hid (And.intro ho3 (And.intro hgr3 (And.intro hg3 hlt3)))
             clear ho3 hgr3 hg3 hlt3)
          | fail)
        go_roundw
        · obtain ⟨o1, o2, o3, _⟩ := OwnW.grow H.out (HS.out.2.1.trans HW.out.2.1) HW.out.1 HOW.out HAL.out HR3.out.1 HR3.out.2.1 HR3.out.2.2.1 HR3.out.2.2.2 hB (Nat.le_refl _)
          refine ⟨acc.length + 1, hkn, by simp, acc ++ [p], a2, er2, oc2, by simp, ?_, o3, o1, o2, ?_⟩
          · intro q hq
            rcases List.mem_append.1 hq with hq | hq
            · exact HS.out.2.2 q hq
            · simp at hq; subst hq; exact HW.out.2.2.2
          · have hm2 := HW.out.2.2.1
            cases hq : ptR l little (at_ + 16 * acc.length) with
            | error z =>
              rw [hq] at hm2
              obtain rfl : er2 = some z := hm2
              exact manyK_err HM.out (by rw [hq]; rfl)
            | ok q =>
              rw [hq] at hm2
              obtain ⟨rfl, rfl, rfl⟩ := hm2
              refine ⟨?_, by show _ = at_ + 16 * (acc.length + 1); simp only []; omega⟩
              have := manyK_next HM.out (x := p) (a' := at_ + 16 * acc.length + 16) (by rw [hq]; rfl)
              rw [show n - (acc.length + 1) = m by omega, show at_ + 16 * (acc.length + 1) = at_ + 16 * acc.length + 16 by omega]; exact this
        · simp [intOf]; omega
      · have hke : acc.length = n := by omega
        have hke0 : n - acc.length = 0 := by omega
        rw [hke0] at hmk
        have hres : ptsR l little n at_ = .ok (acc, at_ + 16 * acc.length) := manyK_end hmk
        have HE : Hid (WPost B w wb v l deep (fun x u w' => Pts (NewW w w' wb) w' u x) (ptsR l little n at_) (.returned u7) wr) := Lib.hid ⟨acc, _, _, none, _, rfl, hpts, hwk, hst, by rw [hres]; exact ⟨rfl, rfl, rfl⟩⟩
        clear how hwk hst hmk hpts hao hres
        go_wp2
        go_ret
        exact HE.out

set_option maxRecDepth 100000 in
theorem spot_any {B wb at_ : Nat} {v : Value} {l : List UInt8} {deep : Int} (little : Bool) (w : World) (h : IsWk B w wb v l at_ deep none oc) (hB : B ≤ w.heap.size) :
    Calls Tryz.prog 79 #[.pointer (some ⟨wb, 0, none⟩), .bool little] w
      (WPost B w wb v l deep (fun x u w' => Pts (NewW w w' wb) w' u x) (placeR l little at_)) := by
  have c1 := h.c1
  have hd := h.len
  have H := Lib.hid h
  by_cases h8 : l.length - at_ < 8
  · have HRR : Hid (placeR l little at_ = .error ((at_ : Int), 160)) := Lib.hid (by unfold placeR; rw [if_pos h8])
    have HN := Lib.hid (num_short 8 little w h h8)
    clear h h8
    go_enter Tryz.func79, Tryz.ntmps79
    go_wp2_with fail
    refine HN.out.mono ?_
    rintro e w1 ⟨rfl, h1, s1⟩
    have c3 : w1.cell? ⟨wb, 3, none⟩ = some (.int .i64 160) := h1.c3
    have H1 := Lib.hid (And.intro h1 s1)
    clear h1 s1
    go_wp2_with fail
    refine (num_dead 8 little w1 H1.out.1).mono ?_
    rintro e w' ⟨rfl, rfl⟩
    go_wp2
    go_ret
    exact ⟨[], _, _, _, _, rfl, ⟨by simp, Sl.nil _ _⟩, H1.out.1, H1.out.2, by rw [HRR.out]⟩
  have hx64 := wd_lt l at_ 8 little
  have HN := Lib.hid (num_got 8 little w h (by omega) (by omega))
  have HP : Hid (placeR l little at_ = if l.length - (at_ + 8) < 8 then .error ((at_ : Int) + 8, 160)
    else if cls (wd l at_ 8 little) = 4 ∧ cls (wd l (at_ + 8) 8 little) = 4 then .ok ([], at_ + 16)
    else if 3 ≤ cls (wd l at_ 8 little) then .error ((at_ : Int), 175) else if 3 ≤ cls (wd l (at_ + 8) 8 little) then .error ((at_ : Int) + 8, 175)
    else .ok ([(wd l at_ 8 little, wd l (at_ + 8) 8 little)], at_ + 16)) := Lib.hid (by unfold placeR; rw [if_neg h8])
  by_cases h9 : l.length - (at_ + 8) < 8
  · have HRR : Hid (placeR l little at_ = .error ((at_ : Int) + 8, 160)) := Lib.hid (by rw [HP.out, if_pos h9])
    have HN2 := Lib.hid (fun W (hW : IsWk B W wb v l (at_ + 8) deep none oc) => num_short 8 little W hW h9)
    generalize wd l at_ 8 little = x at hx64 HN
    clear h h8 h9 HP
    go_enter Tryz.func79, Tryz.ntmps79
    go_wp2_with fail
    refine HN.out.mono ?_
    rintro e w1 ⟨rfl, h1, s1⟩
    have H1 := Lib.hid (And.intro h1 s1)
    clear h1 s1
    go_wp2_with fail
    refine (HN2.out _ H1.out.1).mono ?_
    rintro e w2 ⟨rfl, h2, s2⟩
    have c3 : w2.cell? ⟨wb, 3, none⟩ = some (.int .i64 160) := h2.c3
    have H2 := Lib.hid (And.intro h2 (H1.out.2.trans s2))
    clear h2 s2
    go_wp2
    go_ret
    exact ⟨[], _, _, _, _, rfl, ⟨by simp, Sl.nil _ _⟩, H2.out.1, H2.out.2, by rw [HRR.out]; rfl⟩
  have hy64 := wd_lt l (at_ + 8) 8 little
  have HN2 := Lib.hid (fun W (hW : IsWk B W wb v l (at_ + 8) deep none oc) => num_got 8 little W hW (by omega) (by omega))
  rw [if_neg h9] at HP
  generalize wd l at_ 8 little = x at hx64 HN HP
  generalize wd l (at_ + 8) 8 little = y at hy64 HN2 HP
  have HX := Lib.hid (fun W => rfin_any x W (by simpa using hx64))
  have HY := Lib.hid (fun W => rfin_any y W (by simpa using hy64))
  have HXN := Lib.hid (fun W => nan_any x W (by simpa using hx64))
  have HYN := Lib.hid (fun W => nan_any y W (by simpa using hy64))
  have HE : Hid (∀ (W : World) (er : Option PErr), IsWk B W wb v l (at_ + 8 + 8) deep er oc → StepW B wb w W → (∀ q a, placeR l little at_ = .ok (q, a) → q = [(x, y)] ∧ a = at_ + 16 ∧ er = none) → (∀ z, placeR l little at_ = .error z → er = some z) → (∃ r, placeR l little at_ = r) →
      WPost B w wb v l deep (fun x u w' => Pts (NewW w w' wb) w' u x) (placeR l little at_) (.returned (.slice (some ⟨W.heap.size, 0, none⟩) 1 1)) (W.alloc (.cells #[.int .u64 x, .int .u64 y] 63))) := Lib.hid fun W er hW hs h1 h2 _ => by
    have hb : Below W.heap.size W (W.alloc (.cells #[.int .u64 x, .int .u64 y] 63)) := (Below.refl _ W).alloc (Nat.le_refl _) _
    have hx : (W.alloc (.cells #[.int .u64 x, .int .u64 y] 63)).heap[W.heap.size]? = some (.cells #[.int .u64 x, .int .u64 y] 63 (0, 0)) := World.alloc_heap_new _ _
    have ha := hW.apt hb _ (Nat.le_refl _) (lt_of_heap hx)
    refine ⟨[(x, y)], _, _, er, _, rfl, ⟨?_, _, _, rfl, by simp, by simp, .inr ⟨_, _, rfl, ⟨ha, hs.2.size⟩, fun i c hi => by rw [Nat.zero_add]; exact cell_row (cs := [_, _]) hx hi⟩⟩, hW.below hb, hs.trans (StepW.made hW.lt hb (Nat.le_trans hB hs.2.size)), ?_⟩
    · intro p hp
      simp at hp; subst hp
      exact ⟨by simpa using hx64, by simpa using hy64⟩
    · cases hq : placeR l little at_ with
      | error z => exact h2 z hq
      | ok q => obtain ⟨k1, k2, k3⟩ := h1 q.1 q.2 hq; exact ⟨k1.symm, by omega, k3⟩
  clear h
  go_enter Tryz.func79, Tryz.ntmps79
  go_wp2_with fail
  refine HN.out.mono ?_
  rintro e w1 ⟨rfl, h1, s1⟩
  have H1 := Lib.hid (And.intro h1 s1)
  clear h1 s1
  go_wp2_with fail
  refine (HN2.out _ H1.out.1).mono ?_
  rintro e w2 ⟨rfl, h2, s2⟩
  have c3 : w2.cell? ⟨wb, 3, none⟩ = some (.int .i64 0) := h2.c3
  have H2 := Lib.hid (And.intro h2 (H1.out.2.trans s2))
  clear h2 s2
  by_cases hn : cls x = 4 ∧ cls y = 4
  · have HRR : Hid (placeR l little at_ = .ok ([], at_ + 16)) := Lib.hid (by rw [HP.out, if_pos hn])
    have hx4 : decide (cls x = 4) = true := decide_eq_true hn.1
    have hy4 : decide (cls y = 4) = true := decide_eq_true hn.2
    rw [hx4] at HXN
    rw [hy4] at HYN
    clear hx4 hy4 hn
    go_wp2_with (first
      | (go_at_call_of 96 x; refine (HXN.out _).mono ?_; rintro e w' ⟨rfl, rfl⟩)
      | (go_at_call_of 96 y; refine (HYN.out _).mono ?_; rintro e w' ⟨rfl, rfl⟩)
      | (go_at_call_of 97 x; refine (HX.out _).mono ?_; rintro e w' ⟨rfl, rfl⟩)
      | (go_at_call_of 97 y; refine (HY.out _).mono ?_; rintro e w' ⟨rfl, rfl⟩)
      | fail)
    go_ret
    exact ⟨[], _, _, none, _, rfl, ⟨by simp, Sl.nil _ _⟩, H2.out.1, H2.out.2, by rw [HRR.out]; exact ⟨rfl, by show _ = at_ + 16; omega, rfl⟩⟩
  rw [if_neg hn] at HP
  by_cases hx3 : 3 ≤ cls x
  · have HRR : Hid (placeR l little at_ = .error ((at_ : Int), 175)) := Lib.hid (by rw [HP.out, if_pos hx3])
    have hdx : decide (cls x < 3) = false := decide_eq_false (by omega)
    rw [hdx] at HX
    have HEN := Lib.hid (fun W er h1 h2 h3 => HE.out W er h1 h2 (fun q a h => by rw [HRR.out] at h; cases h) (fun z h => by rw [HRR.out] at h; cases h; exact h3) ⟨_, rfl⟩)
    by_cases hx4 : cls x = 4
    · have hy4 : ¬ cls y = 4 := fun h => hn ⟨hx4, h⟩
      have k1 : decide (cls x = 4) = true := decide_eq_true hx4
      have k2 : decide (cls y = 4) = false := decide_eq_false hy4
      rw [k1] at HXN
      rw [k2] at HYN
      clear k1 k2 hdx hx4 hy4 hn hx3
      go_wp2_with (first
      | (go_at_call_of 96 x; refine (HXN.out _).mono ?_; rintro e w' ⟨rfl, rfl⟩)
      | (go_at_call_of 96 y; refine (HYN.out _).mono ?_; rintro e w' ⟨rfl, rfl⟩)
      | (go_at_call_of 97 x; refine (HX.out _).mono ?_; rintro e w' ⟨rfl, rfl⟩)
      | (go_at_call_of 97 y; refine (HY.out _).mono ?_; rintro e w' ⟨rfl, rfl⟩)
      | fail)
      refine (fault_any (at_ : Int) 175 w2 H2.out.1 (by decide)).mono ?_
      rintro e w3 ⟨rfl, h3, s3⟩
      have H3 := Lib.hid (HEN.out w3 _ h3 (H2.out.2.trans s3) rfl)
      clear h3 s3
      go_wp2
      go_ret
      exact H3.out
    · have k1 : decide (cls x = 4) = false := decide_eq_false hx4
      rw [k1] at HXN
      clear k1 hdx hx4 hn hx3
      go_wp2_with (first
      | (go_at_call_of 96 x; refine (HXN.out _).mono ?_; rintro e w' ⟨rfl, rfl⟩)
      | (go_at_call_of 96 y; refine (HYN.out _).mono ?_; rintro e w' ⟨rfl, rfl⟩)
      | (go_at_call_of 97 x; refine (HX.out _).mono ?_; rintro e w' ⟨rfl, rfl⟩)
      | (go_at_call_of 97 y; refine (HY.out _).mono ?_; rintro e w' ⟨rfl, rfl⟩)
      | fail)
      refine (fault_any (at_ : Int) 175 w2 H2.out.1 (by decide)).mono ?_
      rintro e w3 ⟨rfl, h3, s3⟩
      have H3 := Lib.hid (HEN.out w3 _ h3 (H2.out.2.trans s3) rfl)
      clear h3 s3
      go_wp2
      go_ret
      exact H3.out
  rw [if_neg hx3] at HP
  have k1 : decide (cls x = 4) = false := decide_eq_false (by omega)
  have hdx : decide (cls x < 3) = true := decide_eq_true (by omega)
  rw [k1] at HXN
  rw [hdx] at HX
  by_cases hy3 : 3 ≤ cls y
  · have HRR : Hid (placeR l little at_ = .error ((at_ : Int) + 8, 175)) := Lib.hid (by rw [HP.out, if_pos hy3])
    have hdy : decide (cls y < 3) = false := decide_eq_false (by omega)
    rw [hdy] at HY
    have HEN := Lib.hid (fun W er h1 h2 h3 => HE.out W er h1 h2 (fun q a h => by rw [HRR.out] at h; cases h) (fun z h => by rw [HRR.out] at h; cases h; exact h3) ⟨_, rfl⟩)
    clear k1 hdx hdy hn hx3 hy3
    go_wp2_with (first
      | (go_at_call_of 96 x; refine (HXN.out _).mono ?_; rintro e w' ⟨rfl, rfl⟩)
      | (go_at_call_of 96 y; refine (HYN.out _).mono ?_; rintro e w' ⟨rfl, rfl⟩)
      | (go_at_call_of 97 x; refine (HX.out _).mono ?_; rintro e w' ⟨rfl, rfl⟩)
      | (go_at_call_of 97 y; refine (HY.out _).mono ?_; rintro e w' ⟨rfl, rfl⟩)
      | fail)
    refine (fault_any ((at_ : Int) + 8) 175 w2 H2.out.1 (by decide)).mono ?_
    rintro e w3 ⟨rfl, h3, s3⟩
    have H3 := Lib.hid (HEN.out w3 _ h3 (H2.out.2.trans s3) rfl)
    clear h3 s3
    go_wp2
    go_ret
    exact H3.out
  · have HRR : Hid (placeR l little at_ = .ok ([(x, y)], at_ + 16)) := Lib.hid (by rw [HP.out, if_neg hy3])
    have hdy : decide (cls y < 3) = true := decide_eq_true (by omega)
    rw [hdy] at HY
    have H3 := Lib.hid (HE.out w2 none H2.out.1 H2.out.2 (fun q a h => by rw [HRR.out] at h; cases h; exact ⟨rfl, rfl, rfl⟩) (fun z h => by rw [HRR.out] at h; cases h) ⟨_, rfl⟩)
    clear k1 hdx hdy hn hx3 hy3
    go_wp2_with (first
      | (go_at_call_of 96 x; refine (HXN.out _).mono ?_; rintro e w' ⟨rfl, rfl⟩)
      | (go_at_call_of 96 y; refine (HYN.out _).mono ?_; rintro e w' ⟨rfl, rfl⟩)
      | (go_at_call_of 97 x; refine (HX.out _).mono ?_; rintro e w' ⟨rfl, rfl⟩)
      | (go_at_call_of 97 y; refine (HY.out _).mono ?_; rintro e w' ⟨rfl, rfl⟩)
      | fail)
    go_ret
    exact H3.out
end
section
open Go.RowKit
variable {oc oc0 : Nat}

theorem StepW.undrew1 {B wb : Nat} {a b : World} (h : StepW B wb a.drew b) : StepW B wb a b := ⟨h.1, h.2.os, h.2.tape, h.2.output, h.2.size, h.2.block⟩
theorem IsWk.drew {B wb at_ : Nat} {w : World} {v : Value} {l : List UInt8} {deep : Int} {er : Option PErr} (h : IsWk B w wb v l at_ deep er oc) : IsWk B w.drew wb v l at_ deep er oc := ⟨h.base, h.ole, h.le, h.nz, h.bytes, h.mem⟩

/-- what came of a reader: its value, its place, its error -/
abbrev Gives {α : Type} (r : Except PErr (α × Nat)) (x : α) (a : Nat) (er : Option PErr) : Prop := match r with
  | .ok y => x = y.1 ∧ a = y.2 ∧ er = none
  | .error z => er = some z
theorem Gives.map {α β : Type} {r : Except PErr (α × Nat)} {x : α} {a : Nat} {er : Option PErr} (h : Gives r x a er) (g : α → β) : Gives (r.map fun y => (g y.1, y.2)) (g x) a er := by
  cases r with
  | error z => exact h
  | ok y => obtain ⟨rfl, rfl, rfl⟩ := h; exact ⟨rfl, rfl, rfl⟩
/-- a count, and what is read behind it -/
def thenR {β : Type} (r : Except PErr (Nat × Nat)) (k : Nat → Nat → Except PErr β) : Except PErr β :=
  match r with
  | .error e => .error e
  | .ok y => k y.1 y.2
/-- a loop's law: the whole, what was read, what is still to be read -/
def loopL {α : Type} (R : Except PErr (List α × Nat)) (f : Nat → Except PErr (α × Nat)) (m : Nat) (acc : List α) (a : Nat) : Option PErr → Prop
  | none => R = (manyR f m a).map fun r => (acc ++ r.1, r.2)
  | some z => R = .error z
theorem loopL_start {α : Type} {f : Nat → Except PErr (α × Nat)} {r : Except PErr (Nat × Nat)} {n a : Nat} {er : Option PErr} (h : Gives r n a er) : loopL (thenR r fun n a => manyR f n a) f n [] a er := by
  cases r with
  | error z => obtain rfl : er = some z := h; rfl
  | ok y =>
    obtain ⟨rfl, rfl, rfl⟩ := h
    show manyR f y.1 y.2 = _
    cases manyR f y.1 y.2 <;> simp [Except.map]
theorem loopL_next {α : Type} {R : Except PErr (List α × Nat)} {f : Nat → Except PErr (α × Nat)} {m a a' : Nat} {acc : List α} {x : α} {er : Option PErr} (h : loopL R f (m + 1) acc a none) (hx : Gives (f a) x a' er) : loopL R f m (acc ++ [x]) a' er := by
  have h : R = (manyR f (m + 1) a).map fun r => (acc ++ r.1, r.2) := h
  cases hf : f a with
  | error z =>
    rw [hf] at hx
    obtain rfl : er = some z := hx
    show R = .error z
    rw [h]; simp [manyR, hf, Except.map]
  | ok y =>
    rw [hf] at hx
    obtain ⟨rfl, rfl, rfl⟩ := hx
    show R = (manyR f m y.2).map _
    rw [h]
    simp only [manyR, hf]
    cases manyR f m y.2 <;> simp [Except.map]
theorem loopL_end {α : Type} {R : Except PErr (List α × Nat)} {f : Nat → Except PErr (α × Nat)} {a : Nat} {acc : List α} (h : loopL R f 0 acc a none) : R = .ok (acc, a) := by
  have h : R = (manyR f 0 a).map fun r => (acc ++ r.1, r.2) := h
  rw [h]; simp [manyR, Except.map]
theorem loopL_gives {α : Type} {R : Except PErr (List α × Nat)} {f : Nat → Except PErr (α × Nat)} {m a : Nat} {acc : List α} {er : Option PErr} (h : loopL R f m acc a er) (hm : er = none → m = 0) : Gives R acc a er := by
  cases er with
  | none => obtain rfl := hm rfl; rw [loopL_end h]; exact ⟨rfl, rfl, rfl⟩
  | some z => rw [show R = .error z from h]
theorem manyR_map {α β : Type} (f : Nat → Except PErr (α × Nat)) (g : α → β) : ∀ (n a : Nat), manyR (fun a => (f a).map fun y => (g y.1, y.2)) n a = (manyR f n a).map fun r => (r.1.map g, r.2)
  | 0, a => rfl
  | n + 1, a => by
    simp only [manyR]
    cases hf : f a with
    | error z => rfl
    | ok y =>
      have ih := manyR_map f g n y.2
      simp only [Except.map] at ih ⊢
      simp only [ih]
      cases manyR f n y.2 <;> rfl

/-- the geometry's law, tree alone -/
def treeR (l : List UInt8) (deep : Int) (f : Nat) (level home : Int) (at_ : Nat) : Except PErr (G × Nat) := (geomR l deep f level home at_).map fun x => (x.1.1, x.2)
section
variable {l : List UInt8} {deep level home : Int} {f at_ k : Nat} {lt : Bool}
theorem treeR_err {e : PErr} (h : headR l deep at_ level home = .error e) : treeR l deep (f + 1) level home at_ = .error e := by simp only [treeR, geomR_err h]; rfl
theorem treeR_one (h : headR l deep at_ level home = .ok (lt, 1)) : treeR l deep (f + 1) level home at_ = (placeR l lt (at_ + 5)).map fun r => (.mk 1 r.1 [] [], r.2) := by
  simp only [treeR, geomR, h, if_true]
  cases placeR l lt (at_ + 5) <;> rfl
theorem treeR_two (h : headR l deep at_ level home = .ok (lt, 2)) : treeR l deep (f + 1) level home at_ = (thenR (cntR l lt 16 false (at_ + 5)) fun n a => ptsR l lt n a).map fun r => (.mk 2 r.1 [] [], r.2) := by
  simp only [treeR, geomR, h, cnt_plain]
  rw [if_neg (by decide), if_pos trivial]
  cases countR l lt 16 (at_ + 5) with
  | error e => rfl
  | ok y => simp only [thenR]; cases ptsR l lt y.1 y.2 <;> rfl
theorem treeR_three (h : headR l deep at_ level home = .ok (lt, 3)) : treeR l deep (f + 1) level home at_ = (thenR (cntR l lt 20 false (at_ + 5)) fun n a => manyR (ringR l lt) n a).map fun r => (.mk 3 [] r.1 [], r.2) := by
  simp only [treeR, geomR, h, cnt_plain]
  rw [if_neg (by decide), if_neg (by decide), if_pos trivial]
  cases countR l lt 20 (at_ + 5) with
  | error e => rfl
  | ok y => simp only [thenR]; cases manyR (ringR l lt) y.1 y.2 <;> rfl
theorem treeR_more (h : headR l deep at_ level home = .ok (lt, k)) (h1 : k ≠ 1) (h2 : k ≠ 2) (h3 : k ≠ 3) : treeR l deep (f + 1) level home at_ = (thenR (cntR l lt (if k = 4 then 21 else 9) false (at_ + 5)) fun n a => manyR (treeR l deep f (level + 1) k) n a).map fun r => (.mk k [] [] r.1, r.2) := by
  have hm : ∀ n a, manyR (treeR l deep f (level + 1) k) n a = (manyR (geomR l deep f (level + 1) k) n a).map fun r => (r.1.map (·.1), r.2) := fun n a => manyR_map (geomR l deep f (level + 1) k) (·.1) n a
  simp only [treeR, geomR, h, cnt_plain, hm]
  rw [if_neg h1, if_neg h2, if_neg h3]
  cases countR l lt (if k = 4 then 21 else 9) (at_ + 5) with
  | error e => rfl
  | ok y => simp only [thenR]; cases manyR (geomR l deep f (level + 1) k) y.1 y.2 <;> rfl
end
theorem ring_then (l : List UInt8) (lt : Bool) (a : Nat) : ringR l lt a = thenR (cntR l lt 16 true a) fun n a => ptsR l lt n a := by
  rw [cnt_ring]; cases cntR l lt 16 true a <;> rfl
theorem cntR_len {l : List UInt8} {lt ring : Bool} {least at_ : Nat} {y : Nat × Nat} (h : cntR l lt least ring at_ = .ok y) : y.2 = at_ + 4 ∧ y.1 * least + y.2 ≤ l.length ∧ y.1 < 4294967296 := by
  unfold cntR at h
  split at h
  · cases h
  split at h
  · cases h
  split at h
  · cases h
  have := wd_lt l at_ 4 lt
  cases h
  refine ⟨rfl, ?_, by simp only; omega⟩
  simp only
  generalize wd l at_ 4 lt * least = y at *
  omega

/-- pairs, in either state -/
theorem pairs_both {B wb a : Nat} {v : Value} {l : List UInt8} {deep : Int} {er : Option PErr} {r : Except PErr (Nat × Nat)} (little : Bool) (n : Nat) (w : World) (h : IsWk B w wb v l a deep er oc) (hB : B ≤ w.heap.size) (hr : Gives r n a er) (hl : ∀ y, r = .ok y → y.1 * 16 + y.2 ≤ l.length) :
    Calls Tryz.prog 80 #[.pointer (some ⟨wb, 0, none⟩), .bool little, .int .i64 n] w
      (WPost B w wb v l deep (fun x u w' => Pts (NewW w w' wb) w' u x) (thenR r fun n a => ptsR l little n a)) := by
  cases r with
  | error z =>
    obtain rfl : er = some z := hr
    refine (pairs_dead little n w h).mono ?_
    rintro e w' ⟨rfl, rfl⟩
    exact ⟨[], _, a, some z, _, rfl, ⟨by simp, Sl.nil _ _⟩, h, .refl _ _ _, rfl⟩
  | ok y =>
    obtain ⟨rfl, rfl, rfl⟩ := hr
    exact pairs_any little y.1 w h hB (by have := hl y rfl; omega)

/-- behind an append to its orders and the store of what it gave -/
theorem IsWk.note {B wb at_ g3 cap3 oc' : Nat} {w w2 w3 : World} {v ov : Value} {l : List UInt8} {deep : Int} {os os' : List Bool} (hp : IsWk B w wb v l at_ deep none oc) (hB : B ≤ w.heap.size)
    (hblk : w.heap[wb]? = some (.cells #[v, .int .i64 at_, .int .i64 deep, .int .i64 0, .int .i64 0, ov] 99 (0, 0))) (hown : OwnO B w ov os) (hle : os'.length ≤ oc') (hoc : oc' ≤ at_) (hne : ov.ownBlock ≠ some wb)
    (h2 : Below w.heap.size w w2) {len : Nat} (ho3 : OwnO B w3 (.slice (some ⟨g3, 0, none⟩) len cap3) os') (hgr : w2.grownBy w3 ov.ownBlock) (hg3 : ov.ownBlock = some g3 ∨ g3 = w2.heap.size) :
    IsWk B (w3.setCell ⟨wb, 5, none⟩ (.slice (some ⟨g3, 0, none⟩) len cap3)) wb v l at_ deep none oc' ∧ StepW B wb w (w3.setCell ⟨wb, 5, none⟩ (.slice (some ⟨g3, 0, none⟩) len cap3)) := by
  have hlt := hp.lt
  have hlt2 : wb < w2.heap.size := Nat.lt_of_lt_of_le hlt h2.size
  have hg : g3 ≠ wb := by
    rintro rfl
    rcases hg3 with h | h
    · exact hne h
    · omega
  have hb3 : w3.heap[wb]? = some (.cells #[v, .int .i64 at_, .int .i64 deep, .int .i64 0, .int .i64 0, ov] 99 (0, 0)) := by
    rw [hgr.block wb hlt2 (fun e => hne e.symm), h2.block wb hlt]; exact hblk
  have hBl : Below B w w3 := (h2.mono hB).grown hgr (Nat.le_trans hB h2.size) (fun k e => (World.ownsRow.lt hown k e).1)
  have hblk' : (w3.setCell ⟨wb, 5, none⟩ (.slice (some ⟨g3, 0, none⟩) len cap3)).heap[wb]? = some (.cells #[v, .int .i64 at_, .int .i64 deep, .int .i64 0, .int .i64 0, .slice (some ⟨g3, 0, none⟩) len cap3] 99 (0, 0)) := by
    have := heap_store (cs := [_, _, _, _, _, _]) hb3 (j := 5) (.slice (some ⟨g3, 0, none⟩) len cap3)
    simpa using this
  have hset : ∀ b, b ≠ wb → (w3.setCell ⟨wb, 5, none⟩ (.slice (some ⟨g3, 0, none⟩) len cap3)).heap[b]? = w3.heap[b]? := fun b hb => Below.heap_setCell w3 _ _ b hb
  have hK : KeepW wb w (w3.setCell ⟨wb, 5, none⟩ (.slice (some ⟨g3, 0, none⟩) len cap3)) := by
    intro b ⟨hb1, hb3', hb4⟩
    have hno := hb4 ov (by simp [World.cell?, hblk])
    refine ⟨?_, ?_, hb3', fun u hu => ?_⟩
    · rw [hset b hb3', hgr.block b (Nat.lt_of_lt_of_le hb1 h2.size) (fun e => hno e.symm), h2.block b hb1]
    · have := hgr.size; have := h2.size; simp [World.setCell]; omega
    · simp [World.cell?, hblk'] at hu
      subst hu
      rcases hg3 with h | h
      · rw [h] at hno; simpa [Value.ownBlock] using hno
      · have := h2.size
        simp only [Value.ownBlock, ne_eq, Option.some.injEq]
        omega
  exact ⟨⟨hp.base, hoc, hp.le, hp.nz, hp.bytes.walk hK, _, os', hblk', World.ownsRow.kept ho3 (grownBy_set w3 ⟨wb, 5, none⟩ _) (.inr (by simpa [Value.ownBlock] using hg)), hle, by simpa [Value.ownBlock] using hg⟩, hK, hBl.setCell hp.base _⟩

/-- behind a store into something made since -/
theorem IsWk.set {B wb a0 a g : Nat} {w1 W : World} {v : Value} {l : List UInt8} {deep : Int} {er0 er : Option PErr} (h0 : IsWk B w1 wb v l a0 deep er0 oc0) (hs : StepW B wb w1 W) (h : IsWk B W wb v l a deep er oc) (hg : w1.heap.size ≤ g) (ha : AptW W wb g) (hB : B ≤ w1.heap.size) (j : Nat) (u : Value) :
    IsWk B (W.setCell ⟨g, j, none⟩ u) wb v l a deep er oc ∧ StepW B wb w1 (W.setCell ⟨g, j, none⟩ u) ∧ ∀ b, AptW W wb b → AptW (W.setCell ⟨g, j, none⟩ u) wb b := by
  obtain ⟨o1, o2, o3, _⟩ := IsWk.other h0 hs h (some g) (grownBy_set W ⟨g, j, none⟩ u) (fun _ hb => by cases hb; exact ⟨hg, ha⟩) hB
  exact ⟨o1, o2, o3⟩

/-- the list that a loop grows, in cell j of the box gb -/
structure GrowW (B : Nat) (w8 : World) (wb gb : Nat) (v : Value) (l : List UInt8) (deep : Int) (a : Nat) (er : Option PErr) (oc : Nat) (cs : List Value) (j : Nat) (t : TypeId) (sz n : Nat) (vs : List Value) (sv : Value) (W : World) : Prop where
  wk : IsWk B W wb v l a deep er oc
  step : StepW B wb w8 W
  box : W.heap[gb]? = some (.cells (cs.set j sv).toArray 27 (0, 0))
  apt : AptW W wb gb
  own : OwnW (gb + 1) W wb t sz sv n vs
def GrowOkW (W : World) (wb gb : Nat) (sv : Value) (b : Nat) : Prop := (AptW W wb b ∧ gb < b) ∧ sv.ownBlock ≠ some b
section
variable {B : Nat} {w8 : World} {wb gb : Nat} {v : Value} {l : List UInt8} {deep : Int} {a : Nat} {er : Option PErr} {oc : Nat} {cs : List Value} {j : Nat} {t : TypeId} {sz n : Nat} {vs : List Value} {sv : Value} {W : World}
theorem GrowW.start (kd : Value) (j : Nat) (sz : Nat) (hj : j = 2 ∨ j = 3) (hp : IsWk B W wb v l a deep er oc) (hk : StepW B wb w8 W) (ha : AptW W wb gb) (hbox : W.heap[gb]? = some (.cells #[kd, .slice none 0 0, .slice none 0 0, .slice none 0 0] 27 (0, 0))) :
    GrowW B w8 wb gb v l deep a er oc [kd, .slice none 0 0, .slice none 0 0, .slice none 0 0] j t sz 0 [] (.slice none 0 0) W :=
  ⟨hp, hk, by rcases hj with rfl | rfl <;> simpa using hbox, ha, OwnW.nil _ _ _ _ _⟩
theorem GrowW.call {a2 oc2 : Nat} {er2 : Option PErr} {W2 : World} (h : GrowW B w8 wb gb v l deep a er oc cs j t sz n vs sv W) (hp : IsWk B W2 wb v l a2 deep er2 oc2) (hs : StepW B wb W W2) :
    GrowW B w8 wb gb v l deep a2 er2 oc2 cs j t sz n vs sv W2 ∧ Keeps (GrowOkW W wb gb sv) W W2 ∧ ∀ b, GrowOkW W wb gb sv b → GrowOkW W2 wb gb sv b :=
  ⟨⟨hp, h.step.trans hs, (hs.1 _ h.apt).1.trans h.box, (hs.1 _ h.apt).2, h.own.keep hs.1⟩, hs.1.keeps.mono fun _ _ hb => hb.1.1, fun b hb => ⟨⟨(hs.1 b hb.1.1).2, hb.1.2⟩, hb.2⟩⟩
theorem GrowW.grow {a0 : Nat} {er0 : Option PErr} {n' : Nat} {vs' : List Value} {W' W3 : World} {g cap : Nat} (hgb : w8.heap.size ≤ gb) (hB : B ≤ w8.heap.size) (h0 : IsWk B w8 wb v l a0 deep er0 oc0) (h : GrowW B w8 wb gb v l deep a er oc cs j t sz n vs sv W) (hal : Below W.heap.size W W')
    (ho3 : W3.ownsRow (gb + 1) t sz (.slice (some ⟨g, 0, none⟩) n' cap) n' vs') (hgr : W'.grownBy W3 sv.ownBlock) (hg : sv.ownBlock = some g ∨ g = W'.heap.size) (hgl : g < W3.heap.size) :
    GrowW B w8 wb gb v l deep a er oc cs j t sz n' vs' (.slice (some ⟨g, 0, none⟩) n' cap) (W3.setCell ⟨gb, j, none⟩ (.slice (some ⟨g, 0, none⟩) n' cap)) ∧
    Keeps (GrowOkW W wb gb sv) W (W3.setCell ⟨gb, j, none⟩ (.slice (some ⟨g, 0, none⟩) n' cap)) ∧
    ∀ b, GrowOkW W wb gb sv b → GrowOkW (W3.setCell ⟨gb, j, none⟩ (.slice (some ⟨g, 0, none⟩) n' cap)) wb gb (.slice (some ⟨g, 0, none⟩) n' cap) b := by
  obtain ⟨o1, o2, o3, o4⟩ := OwnW.grow h0 h.step h.wk h.own hal ho3 hgr hg hgl hB (by omega)
  have hgo : sv.ownBlock ≠ some gb := fun e => by have := (World.ownsRow.lt h.own.own gb e).1; omega
  obtain ⟨q1, q2, q3⟩ := o4 gb h.apt hgo
  obtain ⟨s1, s2, s3⟩ := IsWk.set h0 o2 o1 hgb q2 hB j (.slice (some ⟨g, 0, none⟩) n' cap)
  have hset : ∀ b, b ≠ gb → (W3.setCell ⟨gb, j, none⟩ (.slice (some ⟨g, 0, none⟩) n' cap)).heap[b]? = W3.heap[b]? := fun b hb => Below.heap_setCell W3 _ _ b hb
  refine ⟨⟨s1, s2, ?_, s3 _ q2, ⟨World.ownsRow.kept o3.own (grownBy_set W3 ⟨gb, j, none⟩ _) (.inr (by simp only [Value.ownBlock, ne_eq, Option.some.injEq]; exact q3)), fun b hb => s3 b (o3.apt b hb)⟩⟩, ?_, ?_⟩
  · have := heap_store (cs := cs.set j sv) (q1.trans h.box) (j := j) (.slice (some ⟨g, 0, none⟩) n' cap)
    rw [List.set_set] at this
    exact this
  · intro b o hb ho _
    rw [hset b (by have := hb.1.2; omega)]
    exact (o4 b hb.1.1 hb.2).1.trans ho
  · intro b hb
    exact ⟨⟨s3 b (o4 b hb.1.1 hb.2).2.1, hb.1.2⟩, by simp only [Value.ownBlock, ne_eq, Option.some.injEq]; exact (o4 b hb.1.1 hb.2).2.2⟩
end
end
end Go.Proofs.YtlffgepnhhnadaaGreatDoor.Pl
