/- wkb's parser, walked: points, rings, a place. -/
import Derived.Test.YtlffgepnhhnadaaDoorParse
namespace Go.Proofs.YtlffgepnhhnadaaDoor.Pl
open Go.RowKit

/-- behind a store into something made since -/
theorem IsPar.set {B pb rb a0 a g : Nat} {w wr : World} {v : Value} {l : List UInt8} {deep : Int} {os0 os : List Bool} (hp : IsPar B w pb rb v l a0 deep os0) (hk : KeepR pb rb w wr) (h : IsPar B wr pb rb v l a deep os) (hg : w.heap.size ≤ g) (ha : AptR wr pb rb g) (j : Nat) (u : Value) :
    IsPar B (wr.setCell ⟨g, j, none⟩ u) pb rb v l a deep os ∧ KeepR pb rb w (wr.setCell ⟨g, j, none⟩ u) ∧ AptR (wr.setCell ⟨g, j, none⟩ u) pb rb g := by
  have hset : ∀ b, b ≠ g → (wr.setCell ⟨g, j, none⟩ u).heap[b]? = wr.heap[b]? := fun b hb => Below.heap_setCell wr _ _ b hb
  have hsz : (wr.setCell ⟨g, j, none⟩ u).heap.size = wr.heap.size := by simp [World.setCell]
  obtain ⟨ov, h1, h2, h3, h4⟩ := h.mem
  have hpb := (hset pb ha.2.2.1.symm).trans h1
  have hcell : ∀ x, (wr.setCell ⟨g, j, none⟩ u).cell? ⟨pb, 2, none⟩ = some x → wr.cell? ⟨pb, 2, none⟩ = some x := fun x hx => by
    rw [World.cell?_setCell_far _ _ _ _ ha.2.2.1] at hx; exact hx
  have hk2 : KeepR pb rb w (wr.setCell ⟨g, j, none⟩ u) := fun b hb => by
    obtain ⟨k1, k2⟩ := hk b hb
    have hbg : b ≠ g := by have := hb.1; omega
    exact ⟨(hset b hbg).trans k1, by rw [hsz]; exact k2.1, k2.2.1, k2.2.2.1, fun x hx => k2.2.2.2 x (hcell x hx)⟩
  refine ⟨⟨h.basep, h.baser, h.ne, ⟨(hset rb ha.2.1.symm).trans h.rd.blk, (hp.bytes.par hk2).mono fun b _ hb => ⟨hb.2.1, hb.1⟩, h.rd.le⟩, hp.bytes.par hk2, ov, hpb, ?_, h3, h4⟩, hk2, by rw [hsz]; exact ha.1, ha.2.1, ha.2.2.1, fun x hx => ha.2.2.2 x (hcell x hx)⟩
  exact World.ownsRow.kept h2 (grownBy_set wr ⟨g, j, none⟩ u) (.inr (ha.2.2.2 ov (by simp [World.cell?, h1])))

/-- a list in a row of its own, in a block of ok -/
def OwnL (ok : Nat → Prop) (w : World) (t : TypeId) (sz : Nat) (v : Value) (n : Nat) (xs : List Value) : Prop := w.ownsRow 0 t sz v n xs ∧ ∀ b, v.ownBlock = some b → ok b
theorem OwnL.nil (ok : Nat → Prop) (w : World) (t : TypeId) (sz : Nat) : OwnL ok w t sz (.slice none 0 0) 0 [] := ⟨⟨by simp, .inl ⟨rfl, rfl⟩⟩, fun b e => by cases e⟩
theorem OwnL.keeps {ok : Nat → Prop} {w w' : World} {t : TypeId} {sz n : Nat} {v : Value} {xs : List Value} (h : OwnL ok w t sz v n xs) (k : Keeps ok w w') : OwnL ok w' t sz v n xs := by
  refine ⟨⟨h.1.1, ?_⟩, h.2⟩
  rcases h.1.2 with hn | ⟨g, cap, cur, rfl, hb, hg, rest⟩
  · exact .inl hn
  · exact .inr ⟨g, cap, cur, rfl, hb, k g _ (h.2 g rfl) hg rfl, rest⟩
theorem OwnL.mono {ok ok' : Nat → Prop} {w : World} {t : TypeId} {sz n : Nat} {v : Value} {xs : List Value} (h : OwnL ok w t sz v n xs) (hk : ∀ b, b < w.heap.size → ok b → ok' b) : OwnL ok' w t sz v n xs :=
  ⟨h.1, fun b e => hk b (World.ownsRow.lt h.1 b e).2 (h.2 b e)⟩
/-- the two lists of a tree that its own cells name: each in a row of its own -/
def TopO (ok : Nat → Prop) (w : World) (g : G) (cs : List Value) : Prop := ∃ k v1 v2 v3 ps, cs = [k, v1, v2, v3] ∧ OwnL ok w 71 2 v1 g.line.length (ptCells g.line) ∧ OwnL ok w 51 4 v3 g.parts.length ps
theorem TopO.keeps {ok : Nat → Prop} {w w' : World} {g : G} {cs : List Value} (h : TopO ok w g cs) (k : Keeps ok w w') : TopO ok w' g cs := by
  obtain ⟨a, v1, v2, v3, ps, h0, h1, h2⟩ := h
  exact ⟨a, v1, v2, v3, ps, h0, h1.keeps k, h2.keeps k⟩
theorem TopO.mono {ok ok' : Nat → Prop} {w : World} {g : G} {cs : List Value} (h : TopO ok w g cs) (hk : ∀ b, b < w.heap.size → ok b → ok' b) : TopO ok' w g cs := by
  obtain ⟨a, v1, v2, v3, ps, h0, h1, h2⟩ := h
  exact ⟨a, v1, v2, v3, ps, h0, h1.mono hk, h2.mono hk⟩
/-- a tree that calls made: its cells, and its own two lists in rows of their own -/
def IsN (ok : Nat → Prop) (w : World) (g : G) (cs : List Value) : Prop := IsG ok w g cs ∧ TopO ok w g cs
theorem IsN.keeps {ok : Nat → Prop} {w w' : World} {g : G} {cs : List Value} (h : IsN ok w g cs) (k : Keeps ok w w') : IsN ok w' g cs := ⟨h.1.keeps k, h.2.keeps k⟩
theorem IsN.mono {ok ok' : Nat → Prop} {w : World} {g : G} {cs : List Value} (h : IsN ok w g cs) (hk : ∀ b, b < w.heap.size → ok b → ok' b) : IsN ok' w g cs := ⟨h.1.mono hk, h.2.mono hk⟩
/-- points that a call made: a row of their own -/
def PtsN (ok : Nat → Prop) (w : World) (v : Value) (l : List Pt) : Prop := Pts ok w v l ∧ OwnL ok w 71 2 v l.length (ptCells l)
theorem PtsN.nil (ok : Nat → Prop) (w : World) : PtsN ok w (.slice none 0 0) [] := ⟨⟨by simp, Sl.nil _ _⟩, OwnL.nil _ _ _ _⟩
theorem PtsN.keeps {ok : Nat → Prop} {w w' : World} {v : Value} {l : List Pt} (h : PtsN ok w v l) (k : Keeps ok w w') : PtsN ok w' v l := ⟨Pts.keeps h.1 k, h.2.keeps k⟩
theorem PtsN.mono {ok ok' : Nat → Prop} {w : World} {v : Value} {l : List Pt} (h : PtsN ok w v l) (hk : ∀ b, b < w.heap.size → ok b → ok' b) : PtsN ok' w v l := ⟨Pts.mono h.1 hk, h.2.mono hk⟩

theorem Tryd.info71x : (Tryd.prog.info? 71).map (fun i => (i.zero, i.size, i.bytes)) = some (some (.agg #[.int .u64 0, .int .u64 0]), 2, 16) := by kernel_rfl
theorem Tryd.under48x : Tryd.prog.underlying 48 = some (.slice 71) := by kernel_rfl
theorem madeCells_two (x : Value) (m : Nat) : (madeCells #[x, x] m).toList = List.replicate m x := by
  refine List.eq_replicate_iff.2 ⟨by simp [madeCells], fun b hb => ?_⟩
  simp only [madeCells, Array.toList_map, List.mem_map] at hb
  obtain ⟨i, _, rfl⟩ := hb
  have h : i % 2 = 0 ∨ i % 2 = 1 := by omega
  rcases h with h | h <;> simp [h]
theorem make_pts (n : Nat) (w : World) (hn : n ≤ 8796093022208) : ∃ w1, (Instr.makeSlice 48 (.int .i64 n) (.int .i64 n)).run Tryd.prog w = .ok (.slice (some ⟨w.heap.size, 0, none⟩) n n) w1 ∧
    w1.heap[w.heap.size]? = some (.cells (List.replicate (2 * n) (Value.int .u64 0)).toArray 71 (0, 0)) ∧ Below w.heap.size w w1 := by
  obtain ⟨i0, hi, hz0, hz1, hz2⟩ := info_parts Tryd.info71x
  obtain ⟨w1, hmk, hown, hgr⟩ := run_make_full (P := Tryd.prog) w w.heap.size 48 71 i0 (.agg #[.int .u64 0, .int .u64 0]) 2 Tryd.under48x hi hz0 hz1 .i64 .i64 n (by rw [hz2]; omega) (by unfold maxLen; omega) (Nat.le_refl _)
  refine ⟨w1, hmk, ?_, (Below.refl _ _).grown hgr (Nat.le_refl _) (fun _ e => by cases e)⟩
  rcases hown.2 with ⟨hbad, _⟩ | ⟨g, cap, cur, hv2, _, hg, _, _, hsz, htk⟩
  · cases hbad
  simp only [Value.slice.injEq, Option.some.injEq, Addr.mk.injEq, and_true, true_and] at hv2
  obtain ⟨rfl, rfl⟩ := hv2
  have hcur : cur = (List.replicate (2 * n) (Value.int .u64 0)).toArray := by
    apply Array.toList_inj.1
    rw [List.take_of_length_le (by simp [hsz])] at htk
    rw [htk, show (Value.agg #[.int .u64 0, .int .u64 0]).cells = #[Value.int .u64 0, Value.int .u64 0] from rfl, madeCells_two, Nat.mul_comm]
  rw [hcur] at hg; exact hg

theorem numR_lt {l : List UInt8} {lt : Bool} {a x : Nat} (h : numR l lt a = .ok x) : x < 18446744073709551616 := by
  unfold numR at h
  split at h
  · cases h
  · cases h; exact Nat.lt_of_lt_of_le (wd_lt l a 8 lt) (by decide)
/-- what the loop over points keeps -/
def PtsI (B : Nat) (w : World) (pb rb : Nat) (v : Value) (l : List UInt8) (at_ : Nat) (deep : Int) (os : List Bool) (little : Bool) (n k : Nat) (wr : World) : Prop := ∃ acc : List Pt, acc.length = k ∧ (∀ p ∈ acc, PtOk p) ∧
  manyK (fun a => (ptR l little a).map fun p => (p, a + 16)) n at_ acc (n - k) (at_ + 16 * k) ∧ IsPar B wr pb rb v l (at_ + 16 * k) deep os ∧ KeepR pb rb w wr ∧ AptR wr pb rb w.heap.size ∧
  wr.heap[w.heap.size]? = some (.cells (ptCells acc ++ List.replicate (2 * (n - k)) (Value.int .u64 0)).toArray 71 (0, 0)) ∧ Below B w wr
theorem pt_set (acc : List Pt) (m : Nat) (x y : Nat) : ((ptCells acc ++ List.replicate (2 * (m + 1)) (Value.int .u64 0)).set (acc.length * 2) (.int .u64 x)).set (acc.length * 2 + 1) (.int .u64 y) = ptCells (acc ++ [(x, y)]) ++ List.replicate (2 * m) (Value.int .u64 0) := by
  have hr : List.replicate (2 * (m + 1)) (Value.int .u64 0) = .int .u64 0 :: .int .u64 0 :: List.replicate (2 * m) (Value.int .u64 0) := by rw [Nat.mul_add]; rfl
  have hl := ptCells_length acc
  rw [hr, List.set_append_right _ _ (by omega), List.set_append_right _ _ (by omega), hl, ptCells_append, show acc.length * 2 - 2 * acc.length = 0 by omega, show acc.length * 2 + 1 - 2 * acc.length = 1 by omega]
  simp [ptCells]
theorem pt_get (acc : List Pt) (m j : Nat) (hj : j < 2) : (ptCells acc ++ List.replicate (2 * (m + 1)) (Value.int .u64 0))[acc.length * 2 + j]? = some (.int .u64 0) := by
  have hl := ptCells_length acc
  rw [List.getElem?_append_right (by omega), hl, List.getElem?_replicate, if_pos (by omega)]
theorem cell_row {w : World} {g : Nat} {cs : List Value} {t : TypeId} (h : w.heap[g]? = some (.cells cs.toArray t (0, 0))) {j : Nat} {x : Value} (hj : cs[j]? = some x) : w.cell? ⟨g, j, none⟩ = some x := by
  simp [World.cell?, h, hj]
theorem frozen_row {w : World} {g : Nat} {cs : List Value} {t : TypeId} (h : w.heap[g]? = some (.cells cs.toArray t (0, 0))) (j : Nat) : w.frozen? ⟨g, j, none⟩ = false := by
  simp [World.frozen?, h]

set_option maxRecDepth 100000 in
theorem points_rd {B pb rb at_ : Nat} {v : Value} {l : List UInt8} {deep : Int} {os : List Bool} (little : Bool) (n : Nat) (w : World) (hp : IsPar B w pb rb v l at_ deep os) (hB : B ≤ w.heap.size) (hl : at_ + 16 * n ≤ l.length) :
    Calls Tryd.prog 128 #[.pointer (some ⟨pb, 0, none⟩), .bool little, .int .i64 n] w
      (PPost B w pb rb v l deep (fun x u w' => PtsN (NewR w w' pb rb) w' u x) ((ptsR l little n at_).map fun x => (x.1, x.2, os))) := by
  have HP := Lib.hid hp
  have hd : l.length ≤ 140737488355328 := by obtain ⟨A, c, _, _, h, _⟩ := hp.bytes; omega
  obtain ⟨w1, hmk, hg1, hb1⟩ := make_pts n w (by omega)
  have hpl := hp.lt
  have hrl := lt_of_heap hp.rd.blk
  have hap1 : AptR w1 pb rb w.heap.size := by
    refine ⟨lt_of_heap hg1, by omega, by omega, fun x hx => ?_⟩
    obtain ⟨ov, h1, h2, _⟩ := hp.mem
    rw [hb1.cell (p := ⟨pb, 2, none⟩) hpl] at hx
    simp [World.cell?, h1] at hx; subst hx
    intro e; have := (World.ownsRow.lt h2 _ e).2; omega
  have HS0 := Lib.hid (And.intro (hp.below hb1) (And.intro (KeepR.of_below (rb := rb) hpl hb1) (And.intro hap1 (And.intro hg1 (hb1.mono hB)))))
  clear hp hg1 hb1 hap1
  go_enter Tryd.func128, Tryd.ntmps128
  go_wp2_with fail
  go_loopw [13] (fun i wr => ∃ k : Nat, k ≤ n ∧ i = .int .i64 k ∧ Hid (PtsI B w pb rb v l at_ deep os little n k wr)) (fun i _ => n - (intOf i).toNat)
  case atStart =>
    obtain ⟨h1, h2, h3, h4, h5⟩ := HS0.out
    exact ⟨0, Nat.zero_le _, rfl, [], rfl, by simp, manyK_start _ _ _, h1, h2, h3, by simpa [ptCells] using h4, h5⟩
  case round =>
    obtain ⟨k, hk, rfl, acc, hal, hao, hmk2, hp, hkr, hap, hblk, hbl⟩ := hrel
    by_cases hkn : k < n
    · obtain ⟨m, hm⟩ : ∃ m, n - k = m + 1 := ⟨n - k - 1, by omega⟩
      rw [hm] at hmk2 hblk
      have HN1 := Lib.hid (number_any little wr hp (by omega))
      have HM := Lib.hid hmk2
      have HB := Lib.hid hblk
      have HBL := Lib.hid hbl
      have HK := Lib.hid hkr
      have HA := Lib.hid hap
      have hgw := hap.1
      clear hmk2 hblk hbl hkr
      cases hx : numR l little (at_ + 16 * k) with
      | error er =>
        rw [hx] at HN1
        have hres : ptsR l little n at_ = .error er := manyK_err HM.out (by simp [ptR, hx, Except.map])
        have HRES := Lib.hid hres
        clear hp hap hres
        go_wp2_with fail
        refine HN1.out.mono ?_
        rintro e w2 ⟨hb2, he⟩
        cases he
        go_wp2
        refine ⟨rfl, HBL.out.trans hb2, ?_⟩
        rw [HRES.out]; rfl
      | ok x =>
        rw [hx] at HN1
        clear hp hap
        go_wp2_with fail
        refine HN1.out.mono ?_
        rintro e w2 ⟨hb2, u, rfl, rfl, hp2, hk2⟩
        have hg2 := (hk2 _ HA.out).1.trans HB.out
        have ha2 := (hk2 _ HA.out).2
        have hq2 := cell_row hg2 (pt_get acc m 0 (by omega))
        have hf2 := frozen_row hg2 (acc.length * 2)
        rw [Nat.add_zero] at hq2
        rw [hal] at hq2 hf2
        have hset := HP.out.set (HK.out.trans hk2) hp2 (Nat.le_refl _) ha2 (k * 2) (.int .u64 x)
        have hg3 := heap_store hg2 (j := k * 2) (.int .u64 x)
        obtain ⟨w3, hw3⟩ : ∃ w3, w3 = w2.setCell ⟨w.heap.size, k * 2, none⟩ (.int .u64 x) := ⟨_, rfl⟩
        rw [← hw3] at hset hg3
        have hb3 : Below B w w3 := by rw [hw3]; exact (HBL.out.trans hb2).setCell hB _
        have HST := Lib.hid (And.intro hset (And.intro hg3 hb3))
        have HN2 := Lib.hid (number_any little w3 hset.1 (by omega))
        clear hset hg3 hb3 hg2 hp2 hk2 hb2
        cases hy : numR l little (at_ + 16 * k + 8) with
        | error er =>
          rw [hy] at HN2
          have hres : ptsR l little n at_ = .error er := manyK_err HM.out (by simp [ptR, hx, hy, Except.map])
          have HRES := Lib.hid hres
          clear hres
          go_wp2_with fail
          rw [← hw3]
          refine HN2.out.mono ?_
          rintro e w4 ⟨hb4, he⟩
          cases he
          go_wp2
          refine ⟨rfl, HST.out.2.2.trans hb4, ?_⟩
          rw [HRES.out]; rfl
        | ok y =>
          rw [hy] at HN2
          go_wp2_with fail
          rw [← hw3]
          refine HN2.out.mono ?_
          rintro e w4 ⟨hb4, u, rfl, rfl, hp4, hk4⟩
          have hg4 := (hk4 _ HST.out.1.2.2).1.trans HST.out.2.1
          have ha4 := (hk4 _ HST.out.1.2.2).2
          have hq4 := cell_row (j := k * 2 + 1) hg4 (x := .int .u64 0) (by rw [List.getElem?_set_ne (by omega), ← hal]; exact pt_get acc m 1 (by omega))
          have hf4 := frozen_row hg4 (k * 2 + 1)
          have hset := HP.out.set (HST.out.1.2.1.trans hk4) hp4 (Nat.le_refl _) ha4 (k * 2 + 1) (.int .u64 y)
          have hg5 := heap_store hg4 (j := k * 2 + 1) (.int .u64 y)
          rw [← hal, pt_set, hal] at hg5
          have hb5 : Below B w (w4.setCell ⟨w.heap.size, k * 2 + 1, none⟩ (.int .u64 y)) := (HST.out.2.2.trans hb4).setCell hB _
          have HS5 := Lib.hid (And.intro hset (And.intro hg5 hb5))
          have hnx := manyK_next HM.out (x := (x, y)) (a' := at_ + 16 * k + 16) (by simp [ptR, hx, hy, Except.map])
          have HX := Lib.hid hnx
          clear hset hg5 hb5 hg4 hp4 hk4 hb4 hnx
          go_wp2
          go_roundw
          · refine ⟨k + 1, hkn, by simp, ?_⟩
            refine ⟨acc ++ [(x, y)], by simp [hal], ?_, ?_, ?_, HS5.out.1.2.1, HS5.out.1.2.2, ?_, HS5.out.2.2⟩
            · intro p hp
              simp at hp
              rcases hp with hp | rfl
              · exact hao p hp
              · exact ⟨numR_lt hx, numR_lt hy⟩
            · rw [show n - (k + 1) = m by omega, show at_ + 16 * (k + 1) = at_ + 16 * k + 16 by omega]; exact HX.out
            · rw [show at_ + 16 * (k + 1) = at_ + 16 * k + 8 + 8 by omega]; exact HS5.out.1.1
            · rw [show n - (k + 1) = m by omega]; exact HS5.out.2.1
          · simp [intOf]; omega
    · have hke : k = n := by omega
      subst hke
      rw [Nat.sub_self] at hmk2 hblk
      have hres : ptsR l little k at_ = .ok (acc, at_ + 16 * k) := manyK_end hmk2
      have HRES := Lib.hid hres
      have HBL := Lib.hid hbl
      have hpts : PtsN (NewR w wr pb rb) wr (.slice (some ⟨w.heap.size, 0, none⟩) k k) acc :=
        ⟨⟨hao, _, _, by rw [hal], by omega, by omega, .inr ⟨_, _, rfl, ⟨hap, Nat.le_refl _⟩, fun i c h => by rw [Nat.zero_add]; exact cell_row hblk (by simpa using h)⟩⟩,
          ⟨⟨by rw [ptCells_length]; omega, .inr ⟨w.heap.size, k, _, by rw [hal], Nat.zero_le _, hblk, by omega, by unfold maxLen; omega, by simp only [List.size_toArray, List.length_append, ptCells_length, List.length_replicate]; omega, by rw [Nat.mul_zero, List.replicate_zero, List.append_nil]; exact List.take_of_length_le (by rw [ptCells_length]; omega)⟩⟩, fun b e => by cases e; exact ⟨hap, Nat.le_refl _⟩⟩⟩
      have HPT := Lib.hid hpts
      have HE := Lib.hid (And.intro hp hkr)
      clear hres hmk2 hblk hpts hp hkr hbl
      go_wp2
      go_ret
      refine ⟨HBL.out, ?_⟩
      rw [HRES.out]
      exact ⟨_, rfl, HPT.out, HE.out.1, HE.out.2⟩
end Go.Proofs.YtlffgepnhhnadaaDoor.Pl
