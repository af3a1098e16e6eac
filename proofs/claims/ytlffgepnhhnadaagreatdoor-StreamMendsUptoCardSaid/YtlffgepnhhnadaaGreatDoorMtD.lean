/- The document's looks at a tree: finite, own, shaped, walked. The document's items of a tree, walked. -/
import Derived.Test.YtlffgepnhhnadaaGreatDoorApp
import Derived.Deep.DeepMust
import Derived.Deep.RegionHeld3
namespace Go.Proofs.YtlffgepnhhnadaaGreatDoor.Pl
section
open Go.RowKit

theorem dfields_any (b : Nat) (w : World) (hb : b < 18446744073709551616) :
    Calls Tryz.prog 44 #[.int .u64 b] w fun e w' => e = .returned (.tuple #[.bool ((b : Int) / 9223372036854775808 == 1), .int .i64 (b / 4503599627370496 % 2048 : Nat), .int .u64 (b % 4503599627370496 : Nat)]) ∧ w = w' := by
  have h1 := u64_low11 ((b : Int) / 4503599627370496) (by omega) (by omega)
  have h2 := u64_low52 (b : Int) (by omega) (by omega)
  have h3 : wrap64 ((b : Int) / 4503599627370496 % 2048) = (b / 4503599627370496 % 2048 : Nat) := by unfold wrap64; omega
  have H1 := Lib.hid h1
  have H2 := Lib.hid h2
  have H3 := Lib.hid h3
  clear h1 h2 h3
  go_enter Tryz.func44, Tryz.ntmps44
  go_wp2
  go_ret3
  refine ⟨?_, rfl⟩
  simp only [Array.getD, H1.out, H2.out, H3.out]
  rfl
theorem dfin_any (b : Nat) (w : World) (hb : b < 18446744073709551616) :
    Calls Tryz.prog 24 #[.int .u64 b] w fun e w' => e = .returned (.bool (decide (cls b ≤ 2))) ∧ w = w' := by
  have h2 : (((b / 4503599627370496 % 2048 : Nat) : Int) != 2047) = decide (cls b ≤ 2) := by
    have hl : b / 4503599627370496 % 2048 < 2048 := Nat.mod_lt _ (by decide)
    unfold cls
    generalize b / 4503599627370496 % 2048 = e at *
    rw [Bool.eq_iff_iff]
    simp only [bne_iff_ne, ne_eq, decide_eq_true_eq]
    repeat' split
    all_goals omega
  have HF := Lib.hid (dfields_any b w hb)
  have H2 := Lib.hid h2
  clear h2
  generalize b / 4503599627370496 % 2048 = ex at *
  generalize b % 4503599627370496 = fr at *
  go_enter Tryz.func24, Tryz.ntmps24
  go_wp2_with (go_at_call 44; go_must (refine HF.out.mono ?_; rintro e w1 ⟨rfl, rfl⟩))
  go_ret
  exact ⟨ret_bool H2.out, rfl⟩

/-- a tree's own points -/
def ownPs (g : G) : List Pt := g.line ++ g.rings.flatten
theorem ownPs_length (g : G) : (ownPs g).length = ownN g := by simp [ownPs, ownN, List.length_flatten]
theorem flat_next {r : List (List Pt)} {k : Nat} {x : List Pt} (h : r[k]? = some x) : (r.take (k + 1)).flatten = (r.take k).flatten ++ x := by rw [List.take_add_one, h]; simp
theorem one_ptCells : ∀ (l : List Pt), ∀ u ∈ ptCells l, u.oneCell' = true
  | [], u, h => by simp [ptCells] at h
  | p :: l, u, h => by
    simp only [ptCells, List.mem_cons] at h
    rcases h with rfl | rfl | h
    · rfl
    · rfl
    · exact one_ptCells l u h

set_option maxRecDepth 100000 in
theorem down_any {ok : Nat → Prop} {g : G} {cs : List Value} (w : World) (hg : IsG ok w g cs) (hs : ownN g ≤ 1048576) :
    Calls Tryz.prog 22 #[.agg cs.toArray] w fun e w' => ∃ v, e = .returned v ∧ w'.ownsRow w.heap.size 63 2 v (ownN g) (ptCells (ownPs g)) ∧ Below w.heap.size w w' := by
  obtain ⟨kd, ln, rg, pt⟩ := g
  simp only [IsG] at hg
  obtain ⟨v1, v2, v3, rfl, hln, ⟨vr, hrs, hre⟩, _⟩ := hg
  obtain ⟨w1, hw1⟩ : ∃ w1, w1 = w.alloc (.cells #[.int .i64 kd, v1, v2, v3] 27) := ⟨_, rfl⟩
  have hb1 : Below w.heap.size w w1 := by subst hw1; exact (Below.refl _ w).alloc (Nat.le_refl _) _
  have hx1 : w1.heap[w.heap.size]? = some (.cells #[.int .i64 kd, v1, v2, v3] 27 (0, 0)) := by subst hw1; exact World.alloc_heap_new _ _
  have hlt1 := lt_of_heap hx1
  obtain ⟨hlp, A1, m1, rfl, hm1, hl1, hrow1⟩ := hln
  obtain ⟨A2, m2, rfl, hm2, hl2, hrow2⟩ := hrs
  have HBX : Hid (∀ W : World, Below w.heap.size w W → Below w1.heap.size w1 W → W.cell? ⟨w.heap.size, 1, none⟩ = some (.slice A1 ln.length m1) ∧ W.cell? ⟨w.heap.size, 2, none⟩ = some (.slice A2 rg.length m2)) := Lib.hid fun W _ hW => by
    have k1 := (hW.block _ hlt1).trans hx1
    exact ⟨cell_row (cs := [_, _, _, _]) (j := 1) k1 rfl, cell_row (cs := [_, _, _, _]) (j := 2) k1 rfl⟩
  have hlS : Sl ok w1 (.slice A1 ln.length m1) ln.length (ptCells ln) := Sl.keeps (ok := ok) (w := w) ⟨A1, m1, rfl, hm1, hl1, hrow1⟩ (below_keeps hb1 ok)
  have HE := Lib.hid hre
  have HR := Lib.hid hrow2
  have HL := Lib.hid hlS
  have HB1 := Lib.hid hb1
  have hsl : ln.length + (rg.map List.length).sum ≤ 1048576 := by simpa [ownN, G.line, G.rings] using hs
  clear hre hrow2 hlS hrow1 hlp hs
  obtain ⟨bx1, bx2⟩ := HBX.out w1 hb1 (Below.refl _ _)
  clear hb1
  go_enter Tryz.func22, Tryz.ntmps22
  go_wp2_with (first
    | (rw [← hw1]; clear hw1; at_builtin; go_must (
        refine list_append_sl (B := w1.heap.size) (n := 0) (vs := []) Tryz.under48x Tryz.info71x rfl (by decide) (by decide) rfl (.tmp 5) (.tmp 7) rfl (.slice none 0 0) (.slice A1 ln.length m1) (by rfl) (by rfl) ⟨by simp, .inl ⟨rfl, rfl⟩⟩ HL.out (by rw [ptCells_length]; omega) (one_ptCells ln) (by omega) (Nat.le_refl _) ?_
        intro r2 w2 ho2 hgr2 hg2
        rw [Nat.zero_add, List.nil_append] at ho2
        have HO2 := Lib.hid (And.intro ho2 (And.intro hgr2 hg2))
        clear ho2 hgr2 hg2)))
  obtain ⟨hbw, hb12⟩ : Below w.heap.size w w2 ∧ Below w1.heap.size w1 w2 := by
    have h := (Below.refl w1.heap.size w1).grown HO2.out.2.1 (Nat.le_refl _) (fun k e => by cases e)
    exact ⟨HB1.out.trans (h.mono HB1.out.size), h⟩
  obtain ⟨cx1, cx2⟩ := HBX.out w2 hbw hb12
  go_loopw [3, 4] (fun u i W => ∃ k : Nat, k ≤ rg.length ∧ i = .int .i64 k ∧ Hid (W.ownsRow w1.heap.size 63 2 u (ln.length + sumTo rg k) (ptCells (ln ++ (rg.take k).flatten))) ∧ Below w1.heap.size w1 W) (fun _ i _ => rg.length - (intOf i).toNat)
  case atStart => exact ⟨0, Nat.zero_le _, rfl, Lib.hid (by simpa [sumTo_zero] using HO2.out.1), hb12⟩
  case round =>
    obtain ⟨k, hk, rfl, HU, hbr⟩ := hrel
    obtain ⟨dx1, dx2⟩ := HBX.out wr (HB1.out.trans (hbr.mono HB1.out.size)) hbr
    by_cases hkl : k < rg.length
    · obtain ⟨x, hx⟩ : ∃ x, rg[k]? = some x := ⟨_, List.getElem?_eq_getElem hkl⟩
      obtain ⟨vx, hvx, hpx⟩ := HE.out.at k x hx
      have hkp : Keeps ok w wr := below_keeps (HB1.out.trans (hbr.mono HB1.out.size)) ok
      obtain ⟨b2, o2, rfl, hb2, _, hcell⟩ := (HR.out.keeps hkp).at (by rintro rfl; simp at hvx)
      have cc := hcell k _ hvx
      have hpx' := hpx.keeps hkp
      obtain ⟨_, A4, m4, rfl, _, _, _⟩ := hpx
      have hss := sumTo_succ rg k x hx
      have hsle := sumTo_le rg (k + 1)
      have HNX := Lib.hid (flat_next hx)
      have HX := Lib.hid hpx'.2
      have hBr : w1.heap.size ≤ wr.heap.size := hbr.size
      have HBR := Lib.hid hbr
      have HSS := Lib.hid hss
      have hlim : (ln.length + sumTo rg k) + x.length ≤ 1099511627776 := by omega
      clear hcell hpx' hvx hx hbr hkp hss hsle
      go_wp2_with (at_builtin; go_must (
        refine list_append_sl (B := w1.heap.size) Tryz.under48x Tryz.info71x rfl (by decide) (by decide) rfl (.tmp 16) (.tmp 21) rfl u3 (.slice A4 x.length m4) (by rfl) (by rfl) HU.out HX.out (by rw [ptCells_length]; omega) (one_ptCells x) hlim hBr ?_
        intro r3 w3 ho3 hgr3 hg3
        have HO3 := Lib.hid (And.intro ho3 (And.intro hgr3 hg3))
        clear ho3 hgr3 hg3))
      go_roundw
      · refine ⟨k + 1, hkl, by simp, Lib.hid ?_, HBR.out.grown HO3.out.2.1 hBr (fun j e => (World.ownsRow.lt HU.out j e).1)⟩
        have h := HO3.out.1
        rw [HSS.out, HNX.out, ← List.append_assoc, ptCells_append, ← Nat.add_assoc]
        exact h
      · simp [intOf]; omega
    · have hke : k = rg.length := by omega
      have HBR := Lib.hid hbr
      subst hke
      go_wp2_with fail
      go_ret
      refine ⟨_, rfl, ?_, HB1.out.trans (HBR.out.mono HB1.out.size)⟩
      have h := HU.out
      rw [List.take_length, sumTo_all _ _ (Nat.le_refl _)] at h
      exact ⟨h.1, h.2.imp id fun ⟨g, c, cur, a, b, rest⟩ => ⟨g, c, cur, a, Nat.le_trans HB1.out.size b, rest⟩⟩

/-- the shape of its kind, where it stands -/
def shapedB (g : G) (home : Int) : Bool := listsB g && fitsB g.kind home

def bad4 (kd home : Int) : Prop := 4 ≤ home ∧ home ≤ 6 ∧ kd ≠ home - 3
def bad6 (kd : Int) (nl nr np : Nat) : Prop := (0 < nl ∧ 2 < kd) ∨ (0 < nr ∧ kd ≠ 3) ∨ (0 < np ∧ kd < 4)
instance (kd home : Int) : Decidable (bad4 kd home) := by unfold bad4; infer_instance
instance (kd : Int) (nl nr np : Nat) : Decidable (bad6 kd nl nr np) := by unfold bad6; infer_instance
theorem bad4_fits (kd home : Int) : fitsB kd home = !decide (bad4 kd home) := by
  by_cases hb : bad4 kd home
  · rw [decide_eq_true hb]
    unfold bad4 at hb
    unfold fitsB
    rw [if_pos (by omega), decide_eq_false (by omega)]; rfl
  · rw [decide_eq_false hb]
    unfold bad4 at hb
    unfold fitsB
    split
    · rw [decide_eq_true (by omega)]; rfl
    · rfl
theorem lists_mk (kd : Int) (ln : List Pt) (rg : List (List Pt)) (pt : List G) : listsB (.mk kd ln rg pt) = listsN kd ln.length rg.length pt.length (rg.all fun r => r.length != 0) := rfl
theorem shaped_kd {kd home : Int} {ln : List Pt} {rg : List (List Pt)} {pt : List G} (h : ¬ (1 ≤ kd ∧ kd ≤ 7)) : shapedB (.mk kd ln rg pt) home = false := by
  have h2 : listsB (.mk kd ln rg pt) = false := by
    rw [lists_mk]
    unfold listsN
    rw [if_neg (by omega), if_neg (by omega), if_neg (by omega), if_neg (by omega)]
  rw [shapedB, h2]; rfl
theorem shaped_4 {kd home : Int} {ln : List Pt} {rg : List (List Pt)} {pt : List G} (h : bad4 kd home) : shapedB (.mk kd ln rg pt) home = false := by
  rw [shapedB, bad4_fits]; simp [G.kind, h]
theorem shaped_6 {kd home : Int} {ln : List Pt} {rg : List (List Pt)} {pt : List G} (h : bad6 kd ln.length rg.length pt.length) : shapedB (.mk kd ln rg pt) home = false := by
  have h2 : listsB (.mk kd ln rg pt) = false := by
    rw [lists_mk]
    unfold bad6 at h
    generalize rg.all _ = z
    generalize ln.length = nl at *
    generalize rg.length = nr at *
    generalize pt.length = np at *
    unfold listsN
    repeat' split
    all_goals (cases z <;> simp <;> try omega)
  rw [shapedB, h2]; rfl
theorem shaped_ok {kd home : Int} {ln : List Pt} {rg : List (List Pt)} {pt : List G} (h1 : 1 ≤ kd ∧ kd ≤ 7) (h4 : ¬ bad4 kd home) (h6 : ¬ bad6 kd ln.length rg.length pt.length) :
    shapedB (.mk kd ln rg pt) home = ((rg.all fun r => r.length != 0) && (decide (kd ≠ 1) || decide (ln.length ≤ 1))) := by
  have he : kd ≠ 3 → (rg.all fun r => r.length != 0) = true := fun h => by
    have : rg = [] := by
      unfold bad6 at h6
      have : rg.length = 0 := by omega
      exact List.eq_nil_of_length_eq_zero this
    subst this; rfl
  rw [shapedB, bad4_fits, lists_mk]
  simp only [G.kind, h4, decide_false, Bool.not_false, Bool.and_true]
  generalize (rg.all fun r => r.length != 0) = z at *
  unfold bad6 at h6
  generalize ln.length = nl at *
  generalize rg.length = nr at *
  generalize pt.length = np at *
  unfold listsN
  by_cases h3 : kd = 3
  · subst h3
    rw [if_pos rfl]
    have : nl = 0 ∧ np = 0 := by omega
    cases z <;> simp [this.1, this.2]
  · rw [he h3, if_neg h3]
    rw [Bool.eq_iff_iff]
    repeat' split
    all_goals (simp <;> omega)

set_option maxRecDepth 100000 in
set_option maxHeartbeats 4000000 in
theorem dshaped_any {ok : Nat → Prop} {g : G} {v0 v1 v2 v3 : Value} (level home : Int) (w : World) (hg : IsG ok w g [v0, v1, v2, v3]) :
    Calls Tryz.prog 23 #[.agg #[v0, v1, v2, v3, .int .i64 level, .int .i64 home]] w fun e w' => e = .returned (.bool (shapedB g home)) ∧ Below w.heap.size w w' := by
  obtain ⟨kd, ln, rg, pt⟩ := g
  simp only [IsG] at hg
  obtain ⟨_, _, _, hv, hln, ⟨vr, hrs, hre⟩, vp, hps, _⟩ := hg
  simp only [List.cons.injEq, and_true] at hv
  obtain ⟨rfl, rfl, rfl, rfl⟩ := hv
  obtain ⟨_, A1, m1, rfl, _, hl1, _⟩ := hln
  obtain ⟨A2, m2, rfl, hm2, hl2, hrow2⟩ := hrs
  obtain ⟨A3, m3, rfl, _, hl3, _⟩ := hps
  have HE := Lib.hid hre
  have HR := Lib.hid hrow2
  have HK := Lib.hid (shaped_kd (kd := kd) (home := home) (ln := ln) (rg := rg) (pt := pt))
  have H4 := Lib.hid (shaped_4 (kd := kd) (home := home) (ln := ln) (rg := rg) (pt := pt))
  have H6 := Lib.hid (shaped_6 (kd := kd) (home := home) (ln := ln) (rg := rg) (pt := pt))
  have HOK := Lib.hid (shaped_ok (kd := kd) (home := home) (ln := ln) (rg := rg) (pt := pt))
  clear hre hrow2
  obtain ⟨nl, hnl⟩ : ∃ n, ln.length = n := ⟨_, rfl⟩
  obtain ⟨nr, hnr⟩ : ∃ n, rg.length = n := ⟨_, rfl⟩
  obtain ⟨np, hnp⟩ : ∃ n, pt.length = n := ⟨_, rfl⟩
  rw [hnl, hnr, hnp] at H6 HOK
  rw [hnl, hnr, hnp]
  rw [hnl] at hl1
  rw [hnr] at hl2 hm2
  rw [hnp] at hl3
  have HN := Lib.hid hnr
  clear hnl hnr hnp
  obtain ⟨w1, hw1⟩ : ∃ w1, w1 = w.alloc (.cells #[.int .i64 kd, .slice A1 nl m1, .slice A2 nr m2, .slice A3 np m3, .int .i64 level, .int .i64 home] 58) := ⟨_, rfl⟩
  obtain ⟨w2, hw2⟩ : ∃ w2, w2 = w1.alloc (.cells #[.int .i64 kd, .slice A1 nl m1, .slice A2 nr m2, .slice A3 np m3] 27) := ⟨_, rfl⟩
  have hb1 : Below w.heap.size w w1 := by subst hw1; exact (Below.refl _ w).alloc (Nat.le_refl _) _
  have hb2 : Below w1.heap.size w1 w2 := by subst hw2; exact (Below.refl _ w1).alloc (Nat.le_refl _) _
  have hx1 : w1.heap[w.heap.size]? = some (.cells #[.int .i64 kd, .slice A1 nl m1, .slice A2 nr m2, .slice A3 np m3, .int .i64 level, .int .i64 home] 58 (0, 0)) := by subst hw1; exact World.alloc_heap_new _ _
  have hs1 : w1.heap.size = w.heap.size + 1 := by subst hw1; simp
  have hx1' := (hb2.block _ (lt_of_heap hx1)).trans hx1
  have hx2 : w2.heap[w.heap.size + 1]? = some (.cells #[.int .i64 kd, .slice A1 nl m1, .slice A2 nr m2, .slice A3 np m3] 27 (0, 0)) := by subst hw2; rw [← hs1]; exact World.alloc_heap_new _ _
  have hbw : Below w.heap.size w w2 := hb1.trans (hb2.mono hb1.size)
  have HB := Lib.hid hbw
  have bx5 := cell_row (cs := [_, _, _, _, _, _]) (j := 5) hx1' rfl
  have gx0 := cell_row (cs := [_, _, _, _]) (j := 0) hx2 rfl
  have gx1 := cell_row (cs := [_, _, _, _]) (j := 1) hx2 rfl
  have gx2 := cell_row (cs := [_, _, _, _]) (j := 2) hx2 rfl
  have gx3 := cell_row (cs := [_, _, _, _]) (j := 3) hx2 rfl
  clear hx1 hx1' hx2 hb1 hb2 hbw hs1
  go_enter Tryz.func23, Tryz.ntmps23
  by_cases h1 : 1 ≤ kd
  · by_cases h7 : kd ≤ 7
    · go_upto_region 4 with (fail)
      rw [← hw1, ← hw2]
      clear hw1 hw2
      go_cut [30] (fun t W => t = .bool (decide (bad4 kd home)) ∧ W = w2)
      case first =>
        go_wp2_with fail
        all_goals
          go_meet
          case rel => exact ⟨by congr 1; rw [Bool.eq_iff_iff]; refine Iff.trans ?_ decide_eq_true_iff.symm; unfold bad4; simp; try omega, rfl⟩
      case rest =>
        obtain ⟨h30, hwc⟩ := hcut
        subst h30 hwc
        by_cases h4 : bad4 kd home
        · rw [decide_eq_true h4]
          have HF := Lib.hid (H4.out h4)
          clear h4
          go_wp2_with fail
          go_ret
          exact ⟨ret_bool HF.out.symm, HB.out⟩
        · rw [decide_eq_false h4]
          have H4 := Lib.hid h4
          clear h4
          go_upto_region 6 with (fail)
          go_cut [0, 61] (fun a t W => a = .agg #[.int .i64 kd, .slice A1 nl m1, .slice A2 nr m2, .slice A3 np m3, .int .i64 level, .int .i64 home] ∧ t = .bool (decide (bad6 kd nl nr np)) ∧ W = wc)
          case first =>
            cases e3 : kd == 3
            all_goals
              go_wp2_with fail
              all_goals
                go_meet
                case rel => exact ⟨by first | rfl | (rw [show kd = 3 by first | assumption | simpa using e3]), by congr 1; simp at e3; rw [Bool.eq_iff_iff]; refine Iff.trans ?_ decide_eq_true_iff.symm; unfold bad6; simp; try omega, rfl⟩
          case rest =>
            obtain ⟨h0, h61, hwc⟩ := hcut
            subst h0 h61 hwc
            by_cases h6 : bad6 kd nl nr np
            · rw [decide_eq_true h6]
              have HF := Lib.hid (H6.out h6)
              clear h6
              go_wp2_with fail
              go_ret
              exact ⟨ret_bool HF.out.symm, HB.out⟩
            · rw [decide_eq_false h6]
              have HF := Lib.hid (HOK.out ⟨h1, h7⟩ H4.out h6)
              clear h6 HOK H4 H6 HK
              go_wp2_with fail
              go_loopw [4] (fun i W => ∃ k : Nat, k ≤ nr ∧ i = .int .i64 k ∧ Hid ((rg.take k).all (fun r => r.length != 0) = true) ∧ W = wc) (fun i _ => nr - (intOf i).toNat)
              case atStart => exact ⟨0, Nat.zero_le _, rfl, by simp [Hid], rfl⟩
              case round =>
                obtain ⟨k, hk, rfl, HT, rfl⟩ := hrel
                by_cases hkl : k < nr
                · obtain ⟨x, hx⟩ : ∃ x, rg[k]? = some x := ⟨_, List.getElem?_eq_getElem (by rw [HN.out]; exact hkl)⟩
                  obtain ⟨vx, hvx, hpx⟩ := HE.out.at k x hx
                  obtain ⟨b2, o2, rfl, hb2, _, hcell⟩ := (HR.out.keeps (below_keeps HB.out ok)).at (by rintro rfl; simp at hvx)
                  have cc := hcell k _ hvx
                  obtain ⟨_, A4, m4, rfl, _, _, _⟩ := hpx
                  have HX := Lib.hid hx
                  clear hcell hx hvx
                  obtain ⟨nx, hnx⟩ : ∃ n, x.length = n := ⟨_, rfl⟩
                  rw [hnx] at cc
                  have HNX := Lib.hid hnx
                  clear hnx
                  by_cases h0 : nx = 0
                  · subst h0
                    go_wp2_with fail
                    go_ret
                    refine ⟨ret_bool ?_, HB.out⟩
                    rw [HF.out, all_no (f := fun r : List Pt => r.length != 0) HX.out (by simp only [HNX.out]; rfl)]; rfl
                  · have h0' : ((nx : Int) == 0) = false := beq_eq_false_iff_ne.2 (by omega)
                    go_wp2_with fail
                    go_roundw
                    · exact ⟨k + 1, hkl, by simp, all_next HX.out (by simp only [HNX.out]; simpa using h0) HT.out, trivial⟩
                    · simp [intOf]; omega
                · have HA := Lib.hid (all_end (f := fun r : List Pt => r.length != 0) (by rw [HN.out]; exact hk) (by rw [HN.out]; exact hkl) HT.out)
                  rw [HA.out] at HF
                  cases e1 : kd == 1
                  all_goals
                    go_wp2_with fail
                    all_goals
                      go_ret
                      refine ⟨ret_bool ?_, HB.out⟩
                      rw [HF.out, Bool.true_and, Bool.eq_iff_iff]
                      simp only [beq_iff_eq, beq_eq_false_iff_ne] at e1
                      (try simp)
                      (try omega)
    · have hf := HK.out (fun h => h7 h.2)
      rw [hf]
      go_wp2_with fail
      go_ret
      exact ⟨rfl, hw1 ▸ hw2 ▸ HB.out⟩
  · have hf := HK.out (fun h => h1 h.1)
    rw [hf]
    go_wp2_with fail
    go_ret
    exact ⟨rfl, hw1 ▸ hw2 ▸ HB.out⟩
end
section
open Go.RowKit

theorem Tryz.infoIt : (Tryz.prog.info? 58).map (fun i => (i.zero, i.size, i.bytes)) = some (some (.agg #[.int .i64 0, .slice none 0 0, .slice none 0 0, .slice none 0 0, .int .i64 0, .int .i64 0]), 6, 96) := by kernel_rfl
theorem Tryz.underIt : Tryz.prog.underlying 54 = some (.slice 58) := by kernel_rfl

/-- items, by their six cells each -/
def IsIts (ok : Nat → Prop) (w : World) : List It → List Value → Prop
  | [], cs => cs = []
  | x :: xs, cs => ∃ c ds, cs = (c ++ [.int .i64 x.level, .int .i64 x.home]) ++ ds ∧ IsG ok w x.g c ∧ IsIts ok w xs ds
theorem IsIts.keeps {ok : Nat → Prop} {w w' : World} (k : Keeps ok w w') : ∀ {xs : List It} {cs : List Value}, IsIts ok w xs cs → IsIts ok w' xs cs
  | [], _, h => h
  | _ :: _, _, ⟨c, ds, h1, h2, h3⟩ => ⟨c, ds, h1, h2.keeps k, h3.keeps k⟩
theorem IsIts.length {ok : Nat → Prop} {w : World} : ∀ {xs : List It} {cs : List Value}, IsIts ok w xs cs → cs.length = xs.length * 6
  | [], cs, h => by simp only [IsIts] at h; subst h; rfl
  | x :: xs, cs, ⟨c, ds, h1, h2, h3⟩ => by
    have := h3.length
    have := h2.four
    subst h1
    simp only [List.length_append, List.length_cons, List.length_nil]
    omega
theorem IsIts.snoc {ok : Nat → Prop} {w : World} {x : It} {c : List Value} (h : IsG ok w x.g c) : ∀ {xs : List It} {cs : List Value}, IsIts ok w xs cs → IsIts ok w (xs ++ [x]) (cs ++ (c ++ [.int .i64 x.level, .int .i64 x.home]))
  | [], cs, hi => by simp only [IsIts] at hi; subst hi; exact ⟨c, [], by simp, h, rfl⟩
  | y :: xs, _, ⟨c2, ds, h1, h2, h3⟩ => ⟨c2, ds ++ (c ++ [.int .i64 x.level, .int .i64 x.home]), by subst h1; simp, h2, h3.snoc h⟩
theorem IsIts.at {ok : Nat → Prop} {w : World} : ∀ {xs : List It} {cs : List Value}, IsIts ok w xs cs → ∀ (i : Nat) (x : It), xs[i]? = some x → ∃ c, IsG ok w x.g c ∧ ∀ j u, (c ++ [.int .i64 x.level, .int .i64 x.home])[j]? = some u → cs[i * 6 + j]? = some u
  | [], _, _, i, x, h => by simp at h
  | y :: xs, _, ⟨c, ds, h1, h2, h3⟩, 0, x, h => by
    simp at h; subst h; subst h1
    refine ⟨c, h2, fun j u hj => ?_⟩
    rw [Nat.zero_mul, Nat.zero_add, List.getElem?_append_left (List.getElem?_eq_some_iff.1 hj).1]; exact hj
  | y :: xs, _, ⟨c, ds, h1, h2, h3⟩, i + 1, x, h => by
    obtain ⟨c2, h4, h5⟩ := h3.at i x (by simpa using h)
    refine ⟨c2, h4, fun j u hj => ?_⟩
    have hl := h2.four
    subst h1
    rw [List.getElem?_append_right (by simp only [List.length_append, List.length_cons, List.length_nil]; omega)]
    have := h5 j u hj
    rw [← this]; congr 1
    simp only [List.length_append, List.length_cons, List.length_nil]; omega

/-- a list of items that calls made -/
def ItsOwn (B : Nat) (w : World) (v : Value) (xs : List It) : Prop := ∃ vs, w.ownsRow B 58 6 v xs.length vs ∧ IsIts (· < B) w xs vs
theorem ItsOwn.nil (B : Nat) (w : World) : ItsOwn B w (.slice none 0 0) [] := ⟨[], ⟨rfl, .inl ⟨rfl, rfl⟩⟩, rfl⟩

/-- append of one item -/
theorem list_append_it {w : World} {ops : Array Oper} {rest : List Oper} {o : Oper} {a : Act} {Q : Exit → Act → World → Prop} {B n yb : Nat} {vs : List Value} {u1 u2 u3 u4 u5 u6 : Value} (hgd : o.guard = none) (s x : Operand)
    (ho : o.op = .call { callee := .builtin .append, args := #[s, x], argTypes := #[54, 54] }) (v : Value) (hs : a.eval s = v) (hx : a.eval x = .slice (some ⟨yb, 0, none⟩) 1 1) (hv : w.ownsRow B 58 6 v n vs)
    (hy : ∀ j u, [u1, u2, u3, u4, u5, u6][j]? = some u → w.cell? ⟨yb, j, none⟩ = some u) (hu : ∀ u ∈ [u1, u2, u3, u4, u5, u6], u.oneCell' = true) (hl : n ≤ 1099511627776) (hB : B ≤ w.heap.size)
    (h : ∀ g cap w', w'.ownsRow B 58 6 (.slice (some ⟨g, 0, none⟩) (n + 1) cap) (n + 1) (vs ++ [u1, u2, u3, u4, u5, u6]) → w.grownBy w' v.ownBlock → (v.ownBlock = some g ∨ g = w.heap.size) → g < w'.heap.size → wpList Tryz.prog ops Q rest (a.put o.dst (.slice (some ⟨g, 0, none⟩) (n + 1) cap)) w') :
    wpList Tryz.prog ops Q (o :: rest) a w := by
  obtain ⟨i0, hi, hz0, hz1, hz2⟩ := info_parts Tryz.infoIt
  refine wpList_append_lies w hgd s x 54 ho B 58 i0 (.agg #[.int .i64 0, .slice none 0 0, .slice none 0 0, .slice none 0 0, .int .i64 0, .int .i64 0]) 6 96 Tryz.underIt hi hz0 hz1 hz2 rfl (by decide) v n vs hs hv ⟨yb, 0, none⟩ 1 1 [u1, u2, u3, u4, u5, u6] hx rfl ?_ hu (by omega) (by unfold maxLen; omega) (by omega) hB w.heap.size rfl h
  intro j u hj
  rw [add0]; exact hy j u hj
theorem itemss_next : ∀ {p : List G} {k : Nat} {x : G} (lv hm : Int), p[k]? = some x → itemss (p.take (k + 1)) lv hm = itemss (p.take k) lv hm ++ items x lv hm
  | [], k, x, _, _, h => by simp at h
  | g :: p, 0, x, _, _, h => by simp at h; subst h; simp [itemss]
  | g :: p, k + 1, x, lv, hm, h => by
    have := itemss_next (p := p) (k := k) (x := x) lv hm (by simpa using h)
    simp only [List.take_succ_cons, itemss, List.append_assoc]
    rw [this]
theorem take_more {α : Type} (l r : List α) (M : Nat) : (l.take M ++ r).take M = (l ++ r).take M := by
  rw [List.take_append, List.take_append, List.take_take, List.length_take, Nat.min_self]
  congr 2; omega

/-- behind appends to a list of items -/
structure GrewI (B : Nat) (w : World) (v : Value) (xs : List It) (v' : Value) (w' : World) : Prop where
  own : ItsOwn B w' v' xs
  grown : w.grownBy w' v.ownBlock
  blk : ∀ g, v'.ownBlock = some g → v.ownBlock = some g ∨ w.heap.size ≤ g
theorem GrewI.trans {B : Nat} {w w1 w2 : World} {v v1 v2 : Value} {l l1 : List It} (h : GrewI B w v l v1 w1) (k : GrewI B w1 v1 l1 v2 w2) : GrewI B w v l1 v2 w2 := by
  refine ⟨k.own, ⟨k.grown.os.trans h.grown.os, k.grown.tape.trans h.grown.tape, k.grown.output.trans h.grown.output, Nat.le_trans h.grown.size k.grown.size, fun b hb hn => ?_⟩, fun g hg => ?_⟩
  · rw [k.grown.block b (Nat.lt_of_lt_of_le hb h.grown.size) (fun e => ?_)]
    · exact h.grown.block b hb hn
    · rcases h.blk b e.symm with h' | h'
      · exact hn h'.symm
      · omega
  · rcases k.blk g hg with h' | h'
    · exact h.blk g h'
    · exact .inr (Nat.le_trans h.grown.size h')
theorem ItsOwn.lt {B : Nat} {w : World} {v : Value} {xs : List It} (h : ItsOwn B w v xs) (g : Nat) (e : v.ownBlock = some g) : B ≤ g ∧ g < w.heap.size := by obtain ⟨_, h1, _⟩ := h; exact World.ownsRow.lt h1 g e
theorem GrewI.below {B : Nat} {w w' : World} {v v' : Value} {l0 l : List It} (h : GrewI B w v l v' w') (hv : ItsOwn B w v l0) (hB : B ≤ w.heap.size) : Below B w w' := (Below.refl B w).grown h.grown hB (fun k e => (hv.lt k e).1)
theorem ItsOwn.below {B : Nat} {w w' : World} {v : Value} {xs : List It} (h : ItsOwn B w v xs) (hb : Below w.heap.size w w') (hB : B ≤ w.heap.size) : ItsOwn B w' v xs := by
  obtain ⟨vs, h1, h2⟩ := h
  exact ⟨vs, ownsRow_below h1 hb, h2.keeps (Keeps.of_below (hb.mono hB))⟩
theorem GrewI.of_below {B : Nat} {w w' : World} {v : Value} {xs : List It} (h : ItsOwn B w v xs) (hb : Below w.heap.size w w') (hB : B ≤ w.heap.size) : GrewI B w v xs v w' :=
  ⟨h.below hb hB, ⟨hb.os, hb.tape, hb.output, hb.size, fun b h1 _ => hb.block b h1⟩, fun _ e => .inl e⟩
theorem GrewI.undrew1 {B : Nat} {w w' : World} {v v' : Value} {l : List It} (h : GrewI B w.drew v l v' w') : GrewI B w v l v' w' := ⟨h.own, ⟨h.grown.os, h.grown.tape, h.grown.output, h.grown.size, h.grown.block⟩, h.blk⟩
/-- what items gives -/
def ItsPost (B : Nat) (w : World) (v : Value) (xs : List It) (e : Ending) (w' : World) : Prop := ∃ v', e = .returned v' ∧ GrewI B w v xs v' w'

set_option maxRecDepth 100000 in
set_option maxHeartbeats 4000000 in
theorem ditems_any : ∀ (M : Nat) (_ : 0 < M) (_ : M ≤ 1000000) (d : Nat) (g : G) (B : Nat) (lv hm : Int) (v : Value) (xs : List It) (cs : List Value) (w : World), depth g ≤ d → IsG (· < B) w g cs → ItsOwn B w v xs → xs.length ≤ M → 0 ≤ lv → lv + depth g ≤ 1152921504606846976 → B ≤ w.heap.size →
    Calls Tryz.prog 21 #[.agg cs.toArray, .int .i64 lv, .int .i64 hm, v, .int .i64 M] w (ItsPost B w v ((xs ++ items g lv hm).take M)) := by
  intro M hM0 hM d
  induction d with
  | zero => intro g; cases g; intro _ _ _ _ _ _ _ h; simp [depth] at h
  | succ d ih =>
  intro g B lv hm v xs cs w hd hI ho hxl hlv hlv2 hB
  obtain ⟨kd, ln, rg, pt⟩ := g
  have hdp : depths pt ≤ d := by simp only [depth] at hd; omega
  have hII := hI
  simp only [IsG] at hI
  obtain ⟨v1, v2, v3, rfl, ⟨_, A1, m1, rfl, _⟩, ⟨vr, ⟨A2, m2, rfl, _⟩, _⟩, vp, ⟨A3, m3, rfl, _, hl3, hrow3⟩, hpt⟩ := hI
  obtain ⟨w1, hw1⟩ : ∃ w1, w1 = w.alloc (.cells #[.int .i64 kd, .slice A1 ln.length m1, .slice A2 rg.length m2, .slice A3 pt.length m3] 27) := ⟨_, rfl⟩
  have hb1 : Below w.heap.size w w1 := by subst hw1; exact (Below.refl _ w).alloc (Nat.le_refl _) _
  have hx1 : w1.heap[w.heap.size]? = some (.cells #[.int .i64 kd, .slice A1 ln.length m1, .slice A2 rg.length m2, .slice A3 pt.length m3] 27 (0, 0)) := by subst hw1; exact World.alloc_heap_new _ _
  have hlt1 := lt_of_heap hx1
  obtain ⟨vs, hown, hits⟩ := ho
  have hvb : ∀ g, v.ownBlock = some g → g < w.heap.size := fun g e => (World.ownsRow.lt hown g e).2
  -- the box stands in every world that leaves all but v's row
  obtain ⟨nx, hnx⟩ : ∃ n, xs.length = n := ⟨_, rfl⟩
  by_cases hfull : M ≤ nx
  · have hres : (xs ++ items (.mk kd ln rg pt) lv hm).take M = xs := by
      rw [List.take_append_of_le_length (by omega), List.take_of_length_le (by omega)]
    rw [hres]
    rcases hown.2 with ⟨rfl, h0⟩ | ⟨g, cap, cur, rfl, _⟩
    · omega
    · have HO : Hid (GrewI B w (.slice (some ⟨g, 0, none⟩) xs.length cap) xs (.slice (some ⟨g, 0, none⟩) xs.length cap) w1) := Lib.hid (GrewI.of_below ⟨vs, hown, hits⟩ hb1 hB)
      rw [hnx] at HO ⊢
      have HB1 := Lib.hid hb1
      clear hown hits hb1 hII hpt hrow3 hx1
      go_enter Tryz.func21, Tryz.ntmps21
      go_wp2_with fail
      go_ret
      exact ⟨_, rfl, hw1 ▸ HO.out⟩
  · have HB1 := Lib.hid hb1
    have hBX : ∀ W : World, w1.grownBy W v.ownBlock → W.heap[w.heap.size]? = some (.cells #[.int .i64 kd, .slice A1 ln.length m1, .slice A2 rg.length m2, .slice A3 pt.length m3] 27 (0, 0)) := fun W hW =>
      (hW.block _ hlt1 (fun e => Nat.lt_irrefl _ (hvb _ e.symm))).trans hx1
    obtain ⟨sa, sn, sc, hvs⟩ : ∃ a n c, v = .slice a n c := by
      rcases hown.2 with ⟨h, _⟩ | ⟨g, cap, cur, h, _⟩
      · exact ⟨_, _, _, h⟩
      · exact ⟨_, _, _, h⟩
    have hsn : sn = nx := by
      rcases hown.2 with ⟨h, h0⟩ | ⟨g, cap, cur, h, _⟩
      · rw [h] at hvs; cases hvs; omega
      · rw [h] at hvs; cases hvs; exact hnx
    subst hvs hsn
    obtain ⟨wy, hwy⟩ : ∃ wy, wy = w1.alloc (.cells #[.int .i64 kd, .slice A1 ln.length m1, .slice A2 rg.length m2, .slice A3 pt.length m3, .int .i64 lv, .int .i64 hm] 58) := ⟨_, rfl⟩
    have hby : Below w1.heap.size w1 wy := by subst hwy; exact (Below.refl _ w1).alloc (Nat.le_refl _) _
    have hs1 : w1.heap.size = w.heap.size + 1 := by subst hw1; simp
    have hxy : wy.heap[w.heap.size + 1]? = some (.cells #[.int .i64 kd, .slice A1 ln.length m1, .slice A2 rg.length m2, .slice A3 pt.length m3, .int .i64 lv, .int .i64 hm] 58 (0, 0)) := by subst hwy; rw [← hs1]; exact World.alloc_heap_new _ _
    have b0 := cell_row (cs := [_, _, _, _]) (j := 0) hx1 rfl
    have b1 := cell_row (cs := [_, _, _, _]) (j := 1) hx1 rfl
    have b2 := cell_row (cs := [_, _, _, _]) (j := 2) hx1 rfl
    have b3 := cell_row (cs := [_, _, _, _]) (j := 3) hx1 rfl
    have HOY := Lib.hid (ownsRow_below (ownsRow_below hown hb1) hby)
    have hyc : ∀ j u, [.int .i64 kd, .slice A1 ln.length m1, .slice A2 rg.length m2, .slice A3 pt.length m3, .int .i64 lv, .int .i64 hm][j]? = some u → wy.cell? ⟨w.heap.size + 1, j, none⟩ = some u := fun j u hj => cell_row (cs := [_, _, _, _, _, _]) hxy hj
    have HYC := Lib.hid hyc
    clear hyc hxy hx1
    go_enter Tryz.func21, Tryz.ntmps21
    go_wp2_with (first
      | (rw [← hw1, ← hwy]; at_builtin; go_must (
          refine list_append_it rfl (.tmp 17) (.tmp 22) rfl (.slice sa sn sc) (by rfl) (by rfl) HOY.out HYC.out (by simp [Value.oneCell']) (by omega) (Nat.le_trans hB (Nat.le_trans hb1.size hby.size)) ?_
          intro g3 cap3 w4 ho3 hgr3 hg3 hlt3
          rw [hnx] at ho3
          have HR3 := Lib.hid (And.intro ho3 (And.intro hgr3 hg3))
          clear ho3 hgr3 hg3 hlt3))
      | (rw [← hw1]))
    -- behind the append
    have HS4 : Hid (GrewI B w (.slice sa sn sc) (xs ++ [⟨lv, hm, .mk kd ln rg pt⟩]) (.slice (some ⟨g3, 0, none⟩) (sn + 1) cap3) w4 ∧ w4.heap[w.heap.size]? = some (.cells #[.int .i64 kd, .slice A1 ln.length m1, .slice A2 rg.length m2, .slice A3 pt.length m3] 27 (0, 0)) ∧ g3 ≠ w.heap.size) := by
      obtain ⟨r1, r2, r3⟩ := HR3.out
      have hg1 : w1.grownBy w4 (Value.slice sa sn sc).ownBlock := ⟨r2.os.trans hby.os, r2.tape.trans hby.tape, r2.output.trans hby.output, Nat.le_trans hby.size r2.size, fun b hb hn => (r2.block b (Nat.lt_of_lt_of_le hb hby.size) hn).trans (hby.block b hb)⟩
      have hgw : w.grownBy w4 (Value.slice sa sn sc).ownBlock := ⟨hg1.os.trans hb1.os, hg1.tape.trans hb1.tape, hg1.output.trans hb1.output, Nat.le_trans hb1.size hg1.size, fun b hb hn => (hg1.block b (Nat.lt_of_lt_of_le hb hb1.size) hn).trans (hb1.block b hb)⟩
      have hBw : Below B w w4 := (Below.refl B w).grown hgw hB (fun k e => (World.ownsRow.lt hown k e).1)
      have hne : g3 ≠ w.heap.size := by
        rcases r3 with h | h
        · exact fun e => Nat.lt_irrefl _ (e ▸ hvb _ h)
        · have := hby.size; omega
      refine Lib.hid ⟨⟨⟨_, ?_, IsIts.snoc (x := ⟨lv, hm, .mk kd ln rg pt⟩) (hII.keeps (Keeps.of_below hBw)) (hits.keeps (Keeps.of_below hBw))⟩, hgw, fun g e => ?_⟩, hBX _ hg1, hne⟩
      · rw [List.length_append, hnx]; exact r1
      · cases e
        rcases r3 with h | h
        · exact .inl h
        · exact .inr (by rw [h]; exact Nat.le_trans hb1.size hby.size)
    have hlv3 : lv ≤ 1152921504606846975 := by simp only [depth] at hlv2; omega
    have hw5 : IntKind.i64.wrap (lv + 1) = lv + 1 := IntWalk.i64_in _ (by omega)
    obtain ⟨e1, e2, e3⟩ := HS4.out
    have f3 := cell_row (cs := [_, _, _, _]) (j := 3) e2 rfl
    clear e1 e2 e3 b0 b1 b2 b3 hBX hwy hby hs1
    have HIH := Lib.hid ih
    have HPT := Lib.hid hpt
    have HRW := Lib.hid hrow3
    have HOW : Hid (ItsOwn B w (.slice sa sn sc) xs) := Lib.hid ⟨vs, hown, hits⟩
    clear ih hpt hrow3 hII hown hits hb1 hvb
    go_loopw [3, 11] (fun u i W => ∃ k : Nat, k ≤ pt.length ∧ i = .int .i64 k ∧ Hid (GrewI B w (.slice sa sn sc) ((xs ++ (⟨lv, hm, .mk kd ln rg pt⟩ :: itemss (pt.take k) (lv + 1) kd)).take M) u W ∧ W.heap[w.heap.size]? = some (.cells #[.int .i64 kd, .slice A1 ln.length m1, .slice A2 rg.length m2, .slice A3 pt.length m3] 27 (0, 0)) ∧ u.ownBlock ≠ some w.heap.size)) (fun _ i _ => pt.length - (intOf i).toNat)
    case atStart =>
      refine ⟨0, Nat.zero_le _, rfl, Lib.hid ⟨?_, HS4.out.2.1, fun e => HS4.out.2.2 (by cases e; rfl)⟩⟩
      rw [List.take_zero, itemss, List.take_of_length_le (by simp; omega)]
      exact HS4.out.1
    case round =>
      obtain ⟨k, hk, rfl, HR⟩ := hrel
      have hbx := HR.out.2.1
      have b0 := cell_row (cs := [_, _, _, _]) (j := 0) hbx rfl
      have b3 := cell_row (cs := [_, _, _, _]) (j := 3) hbx rfl
      have hwr : Below B w wr := HR.out.1.below HOW.out hB
      have hBr : B ≤ wr.heap.size := Nat.le_trans hB hwr.size
      by_cases hkl : k < pt.length
      · obtain ⟨x, hx⟩ : ∃ x, pt[k]? = some x := ⟨_, List.getElem?_eq_getElem hkl⟩
        obtain ⟨cx, hI, hat⟩ := HPT.out.at k x hx
        have hdx : depth x ≤ depths pt := depths_at pt k x hx
        have hlx : lv + 1 + (depth x : Int) ≤ 1152921504606846976 := by simp only [depth] at hlv2; omega
        obtain ⟨bp, op, rfl, hbp, _, hcell⟩ := (HRW.out.keeps (Keeps.of_below hwr)).at (by
          intro e; have := hat 0 cx[0]! ; have h4 := hI.four; rw [e] at this
          simp at this
          match cx, h4 with
          | [_, _, _, _], _ => simp at this)
        have hnx := itemss_next (lv + 1) kd hx
        have hI' := hI.keeps (Keeps.of_below hwr)
        obtain ⟨kx, lx, rx, px⟩ := x
        have hI2 := hI
        simp only [IsG] at hI2
        obtain ⟨x1, x2, x3, rfl, ⟨_, D1, n1, rfl, _⟩, ⟨_, ⟨D2, n2, rfl, _⟩, _⟩, _, ⟨D3, n3, rfl, _⟩, _⟩ := hI2
        have d0 := hcell _ _ (hat 0 _ rfl)
        have d1 := hcell _ _ (hat 1 _ rfl)
        have d2 := hcell _ _ (hat 2 _ rfl)
        have d3 := hcell _ _ (hat 3 _ rfl)
        rw [Nat.add_zero] at d0
        rw [← Nat.add_assoc] at d1 d2 d3
        have HSK : Hid (∀ W : World, W.heap[w.heap.size]? = wr.heap[w.heap.size]? → W.heap[bp]? = wr.heap[bp]? → W.cell? ⟨w.heap.size, 0, none⟩ = some (.int .i64 kd) ∧ W.cell? ⟨w.heap.size, 3, none⟩ = some (.slice (some ⟨bp, op, none⟩) pt.length m3) ∧
            W.cell? ⟨bp, op + k * 4, none⟩ = some (.int .i64 kx) ∧ W.cell? ⟨bp, op + k * 4 + 1, none⟩ = some (.slice D1 lx.length n1) ∧ W.cell? ⟨bp, op + k * 4 + 2, none⟩ = some (.slice D2 rx.length n2) ∧ W.cell? ⟨bp, op + k * 4 + 3, none⟩ = some (.slice D3 px.length n3)) := Lib.hid fun W h1 h2 =>
          ⟨(World.cell?_of_block (a := ⟨w.heap.size, 0, none⟩) h1).trans b0, (World.cell?_of_block (a := ⟨w.heap.size, 3, none⟩) h1).trans b3, (World.cell?_of_block (a := ⟨bp, op + k * 4, none⟩) h2).trans d0, (World.cell?_of_block (a := ⟨bp, op + k * 4 + 1, none⟩) h2).trans d1, (World.cell?_of_block (a := ⟨bp, op + k * 4 + 2, none⟩) h2).trans d2, (World.cell?_of_block (a := ⟨bp, op + k * 4 + 3, none⟩) h2).trans d3⟩
        have hdr : Below wr.heap.size wr wr.drew := ⟨rfl, rfl, rfl, Nat.le_refl _, fun _ _ => rfl⟩
        have HX := Lib.hid (HIH.out (.mk kx lx rx px) B (lv + 1) kd u3 _ [_, _, _, _] wr.drew (Nat.le_trans hdx hdp) (hI'.keeps (Keeps.of_below (hdr.mono hBr))) (HR.out.1.own.below hdr hBr) (by rw [List.length_take]; omega) (by omega) hlx hBr)
        have HNX := Lib.hid hnx
        have hlw := lt_of_heap hbx
        have hlp := lt_of_cell d0
        have hki : (k : Int) < (pt.length : Int) := by omega
        clear hcell hat hI hI' hx hdr hnx b0 d0 d1 d2 d3 hbx hwr
        go_wp2_with fail
        go_region_held3 (fun W => W.cell? ⟨w.heap.size, 0, none⟩ = some (.int .i64 kd) ∧ W.cell? ⟨w.heap.size, 3, none⟩ = some (.slice (some ⟨bp, op, none⟩) pt.length m3) ∧
            W.cell? ⟨bp, op + k * 4, none⟩ = some (.int .i64 kx) ∧ W.cell? ⟨bp, op + k * 4 + 1, none⟩ = some (.slice D1 lx.length n1) ∧ W.cell? ⟨bp, op + k * 4 + 2, none⟩ = some (.slice D2 rx.length n2) ∧ W.cell? ⟨bp, op + k * 4 + 3, none⟩ = some (.slice D3 px.length n3))
          (first
            | exact HSK.out _ rfl rfl
            | exact HSK.out _ HB9.out.2.1 HB9.out.2.2)
          ((first
            | (go_at_call 21
               refine HX.out.mono ?_
               rintro e w9 ⟨v9, rfl, h9⟩
               have HB9 := Lib.hid (And.intro h9.undrew1 (And.intro (h9.undrew1.grown.block _ hlw (fun e => HR.out.2.2 e.symm)) (h9.undrew1.grown.block bp hlp (fun e => by have := (HR.out.1.own.lt bp e.symm).1; omega))))
               clear h9)))
        all_goals
          go_wp2_with fail
          go_roundw
          · refine ⟨k + 1, hkl, by simp, Lib.hid ⟨?_, HB9.out.2.1.trans HR.out.2.1, fun e => ?_⟩⟩
            · have h := HR.out.1.trans HB9.out.1
              rw [take_more, List.append_assoc, List.cons_append, ← HNX.out] at h
              exact h
            · rcases HB9.out.1.blk _ e with h | h
              · exact HR.out.2.2 h
              · omega
          · simp [intOf]; omega
      · have hke : k = pt.length := by omega
        subst hke
        have h := HR.out.1
        rw [List.take_length] at h
        have HE : Hid (GrewI B w (.slice sa sn sc) ((xs ++ items (.mk kd ln rg pt) lv hm).take M) u3 wr) := Lib.hid (by simpa only [items] using h)
        clear h hbx
        go_wp2_with fail
        go_ret
        exact ⟨_, rfl, HE.out⟩
end
end Go.Proofs.YtlffgepnhhnadaaGreatDoor.Pl
