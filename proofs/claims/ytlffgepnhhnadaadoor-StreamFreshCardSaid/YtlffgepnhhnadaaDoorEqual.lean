/- tree.Equal says yes to one tree in two places: walked. -/
import Derived.Test.YtlffgepnhhnadaaDoorFrame
namespace Go.Proofs.YtlffgepnhhnadaaDoor.Pl
open Go.RowKit

set_option maxRecDepth 100000 in
theorem sameLine_same {ok ok2 : Nat → Prop} {v v2 : Value} {l : List Pt} (w : World) (h1 : Pts ok w v l) (h2 : Pts ok2 w v2 l) :
    Calls Tryd.prog 50 #[v, v2] w fun e w' => e = .returned (.bool true) ∧ ∃ n, w' = w.drewN n := by
  obtain ⟨_, A, c, rfl, hc, hl, hr⟩ := h1
  obtain ⟨_, A2, c2, rfl, hc2, _, hr2⟩ := h2
  have HR := Lib.hid (And.intro hr hr2)
  clear hr hr2
  go_enter Tryd.func50, Tryd.ntmps50
  go_wp2_with fail
  go_loopw [13] (fun i W => ∃ k n : Nat, k ≤ l.length ∧ i = .int .i64 k ∧ W = w.drewN n) (fun i _ => l.length - (intOf i).toNat)
  case atStart => exact ⟨0, 0, Nat.zero_le _, rfl, rfl⟩
  case round =>
    obtain ⟨k, n, hk, rfl, hW⟩ := hrel
    by_cases hkl : k < l.length
    · have hp : l[k]? = some l[k] := List.getElem?_eq_getElem hkl
      have hne : ptCells l ≠ [] := by intro e; have h := ptCells_length l; rw [e] at h; simp only [List.length_nil] at h; omega
      obtain ⟨b, o, rfl, _, _, hcell⟩ := HR.out.1.at hne
      obtain ⟨b2, o2, rfl, _, _, hcell2⟩ := HR.out.2.at hne
      obtain ⟨p0, p1⟩ := pt_cells hcell k _ hp
      obtain ⟨q0, q1⟩ := pt_cells hcell2 k _ hp
      have HW := Lib.hid hW
      have hh : wr.heap = w.heap := by rw [hW]; rfl
      have p0 := (World.cell?_of_block (w := w) (w' := wr) (a := ⟨b, o + k * 2, none⟩) (by rw [hh])).trans p0
      have p1 := (World.cell?_of_block (w := w) (w' := wr) (a := ⟨b, o + k * 2 + 1, none⟩) (by rw [hh])).trans p1
      have q0 := (World.cell?_of_block (w := w) (w' := wr) (a := ⟨b2, o2 + k * 2, none⟩) (by rw [hh])).trans q0
      have q1 := (World.cell?_of_block (w := w) (w' := wr) (a := ⟨b2, o2 + k * 2 + 1, none⟩) (by rw [hh])).trans q1
      clear hcell hcell2 hp hne hW hh
      generalize l[k].1 = x at p0 q0
      generalize l[k].2 = y at p1 q1
      go_wp2
      go_quiet (fail)
      go_wp2
      go_roundw
      · exact ⟨k + 1, n + nq, hkl, by simp, by rw [HW.out, drewN_add]⟩
      · simp [intOf]; omega
    · go_wp2
      go_ret
      exact ⟨rfl, n, rfl⟩

set_option maxRecDepth 100000 in
set_option maxHeartbeats 2000000 in
theorem Equal_same : ∀ (d : Nat) (g : G) (ok ok2 : Nat → Prop) (ca cb : List Value) (w : World), depth g ≤ d → IsG ok w g ca → IsG ok2 w g cb →
    Calls Tryd.prog 29 #[.agg ca.toArray, .agg cb.toArray] w fun e w' => e = .returned (.bool true) ∧ Below w.heap.size w w' := by
  intro d
  induction d with
  | zero => intro g; cases g; intro _ _ _ _ _ h; simp [depth] at h
  | succ d ih =>
  intro g ok ok2 ca cb w hd ha hb
  obtain ⟨kd, ln, rg, pt⟩ := g
  simp only [IsG] at ha hb
  obtain ⟨v1, v2, v3, rfl, hln, ⟨vr, hrs, hre⟩, vp, hps, hpt⟩ := ha
  obtain ⟨u1, u2, u3, rfl, hln', ⟨vr', hrs', hre'⟩, vp', hps', hpt'⟩ := hb
  obtain ⟨A2, k2, rfl, hk2, hkl2, hrow2⟩ := hrs
  obtain ⟨A2', k2', rfl, hk2', _, hrow2'⟩ := hrs'
  obtain ⟨A3, k3, rfl, hk3, hkl3, hrow3⟩ := hps
  obtain ⟨A3', k3', rfl, hk3', _, hrow3'⟩ := hps'
  obtain ⟨w1, hw1⟩ : ∃ w1, w1 = (w.alloc (.cells #[.int .i64 kd, v1, .slice A2 rg.length k2, .slice A3 pt.length k3] 51)).alloc (.cells #[.int .i64 kd, u1, .slice A2' rg.length k2', .slice A3' pt.length k3'] 51) := ⟨_, rfl⟩
  have hz : (w.alloc (.cells #[.int .i64 kd, v1, .slice A2 rg.length k2, .slice A3 pt.length k3] 51)).heap.size = w.heap.size + 1 := Array.size_push _
  have hb0 : Below w.heap.size w (w.alloc (.cells #[.int .i64 kd, v1, .slice A2 rg.length k2, .slice A3 pt.length k3] 51)) := (Below.refl _ w).alloc (Nat.le_refl _) _
  have hb1 : Below w.heap.size w w1 := by rw [hw1]; exact hb0.alloc hb0.size _
  have hx0 : w1.heap[w.heap.size]? = some (.cells #[.int .i64 kd, v1, .slice A2 rg.length k2, .slice A3 pt.length k3] 51 (0, 0)) := by
    have h2 : Below (w.heap.size + 1) (w.alloc (.cells #[.int .i64 kd, v1, .slice A2 rg.length k2, .slice A3 pt.length k3] 51)) w1 := by rw [hw1]; exact (Below.refl _ _).alloc (by omega) _
    exact (h2.block _ (by omega)).trans (World.alloc_heap_new _ _)
  have hx1 : w1.heap[w.heap.size + 1]? = some (.cells #[.int .i64 kd, u1, .slice A2' rg.length k2', .slice A3' pt.length k3'] 51 (0, 0)) := by rw [hw1, ← hz]; exact World.alloc_heap_new _ _
  have hl0 := lt_of_heap hx0
  have hl1 := lt_of_heap hx1
  have HLN := Lib.hid (fun W (hW : Below w.heap.size w W) => sameLine_same W (hln.keeps (below_keeps hW ok)) (hln'.keeps (below_keeps hW ok2)))
  have HB1 := Lib.hid hb1
  have HX := Lib.hid (And.intro hx0 hx1)
  have HRW := Lib.hid (And.intro hrow2 (And.intro hrow2' (And.intro hrow3 hrow3')))
  have HRE := Lib.hid (And.intro hre hre')
  have HPE := Lib.hid (And.intro hpt hpt')
  have IH := Lib.hid ih
  have hcells : ∀ W, Below w1.heap.size w1 W → (∀ j x, [Value.int .i64 kd, v1, .slice A2 rg.length k2, .slice A3 pt.length k3][j]? = some x → W.cell? ⟨w.heap.size, j, none⟩ = some x) ∧ ∀ j x, [Value.int .i64 kd, u1, .slice A2' rg.length k2', .slice A3' pt.length k3'][j]? = some x → W.cell? ⟨w.heap.size + 1, j, none⟩ = some x :=
    fun W hW => ⟨fun j x h => (hW.cell (p := ⟨w.heap.size, j, none⟩) hl0).trans (cell_row hx0 h), fun j x h => (hW.cell (p := ⟨w.heap.size + 1, j, none⟩) hl1).trans (cell_row hx1 h)⟩
  have HCE := Lib.hid hcells
  obtain ⟨_, B1, b1, rfl, _, _, _⟩ := hln
  obtain ⟨_, B1', b1', rfl, _, _, _⟩ := hln'
  have a0 := (hcells w1 (Below.refl _ _)).1 0 _ rfl
  have a1 := (hcells w1 (Below.refl _ _)).1 1 _ rfl
  have a2 := (hcells w1 (Below.refl _ _)).1 2 _ rfl
  have a3 := (hcells w1 (Below.refl _ _)).1 3 _ rfl
  have e0 := (hcells w1 (Below.refl _ _)).2 0 _ rfl
  have e1 := (hcells w1 (Below.refl _ _)).2 1 _ rfl
  have e2 := (hcells w1 (Below.refl _ _)).2 2 _ rfl
  have e3 := (hcells w1 (Below.refl _ _)).2 3 _ rfl
  clear ih hrow2 hrow2' hrow3 hrow3' hre hre' hpt hpt' hcells hb0 hb1 hx0 hx1 hz
  go_enter Tryd.func29, Tryd.ntmps29
  go_upto_region 1 with (fail)
  rw [← hw1]
  clear hw1
  go_wp2_with fail
  refine (HLN.out w1 HB1.out).mono ?_
  rintro e w2 ⟨rfl, n2, hw2⟩
  have hb2 : Below w1.heap.size w1 w2 := by rw [hw2]; exact below_drewN (Below.refl _ _) _
  have a2 := (HCE.out w2 hb2).1 2 _ rfl
  have a3 := (HCE.out w2 hb2).1 3 _ rfl
  have e2 := (HCE.out w2 hb2).2 2 _ rfl
  have e3 := (HCE.out w2 hb2).2 3 _ rfl
  have HB2 := Lib.hid hb2
  clear hb2 hw2
  go_wp2_with fail
  go_loopw [41] (fun i wr => ∃ k : Nat, k ≤ rg.length ∧ i = .int .i64 k ∧ Hid (Below w1.heap.size w1 wr)) (fun i _ => rg.length - (intOf i).toNat)
  case atStart => exact ⟨0, Nat.zero_le _, rfl, HB2⟩
  case round =>
    obtain ⟨k, hk, rfl, HBr⟩ := hrel
    have hbw : Below w.heap.size w wr := HB1.out.trans (HBr.out.mono (Nat.le_of_lt hl0))
    have a2 := (HCE.out wr HBr.out).1 2 _ rfl
    have a3 := (HCE.out wr HBr.out).1 3 _ rfl
    have e2 := (HCE.out wr HBr.out).2 2 _ rfl
    have e3 := (HCE.out wr HBr.out).2 3 _ rfl
    by_cases hkl : k < rg.length
    · obtain ⟨x, hx⟩ : ∃ x, rg[k]? = some x := ⟨_, List.getElem?_eq_getElem hkl⟩
      obtain ⟨va, hva, hpa⟩ := HRE.out.1.at k x hx
      obtain ⟨vb, hvb, hpb⟩ := HRE.out.2.at k x hx
      obtain ⟨b, o, rfl, _, _, hc1⟩ := (HRW.out.1.keeps (below_keeps hbw ok)).at (by rintro rfl; simp at hva)
      obtain ⟨b', o', rfl, _, _, hc2⟩ := (HRW.out.2.1.keeps (below_keeps hbw ok2)).at (by rintro rfl; simp at hvb)
      have cc := hc1 k _ hva
      have cc' := hc2 k _ hvb
      have HS := Lib.hid (fun W (h1 : Pts ok W va x) (h2 : Pts ok2 W vb x) => sameLine_same W h1 h2)
      have HPP := Lib.hid (And.intro (hpa.keeps (below_keeps hbw ok)) (hpb.keeps (below_keeps hbw ok2)))
      obtain ⟨_, P, kp, rfl, _, _, _⟩ := hpa
      obtain ⟨_, P', kp', rfl, _, _, _⟩ := hpb
      clear hc1 hc2 hva hvb hx hbw
      go_wp2_with fail
      go_quiet (first
        | (go_at_call 50
           refine (HS.out _ ?_ ?_).mono ?_
           · exact HPP.out.1
           · exact HPP.out.2
           rintro e w' ⟨rfl, k5, rfl⟩
           exact ⟨rfl, _, drewN_add _ _ _⟩)
        | fail)
      go_wp2_with fail
      go_roundw
      · exact ⟨k + 1, hkl, by simp, Lib.hid (below_drewN HBr.out _)⟩
      · simp [intOf]; omega
    · go_wp2_with fail
      clear hkl hbw
      go_loopw [60] (fun i wr => ∃ k : Nat, k ≤ pt.length ∧ i = .int .i64 k ∧ Hid (Below w1.heap.size w1 wr)) (fun i _ => pt.length - (intOf i).toNat)
      case atStart => exact ⟨0, Nat.zero_le _, rfl, HBr⟩
      case round =>
        obtain ⟨j, hj, rfl, HBq⟩ := hrel
        have hbw : Below w.heap.size w wr := HB1.out.trans (HBq.out.mono (Nat.le_of_lt hl0))
        have a3 := (HCE.out wr HBq.out).1 3 _ rfl
        have e3 := (HCE.out wr HBq.out).2 3 _ rfl
        by_cases hjl : j < pt.length
        · obtain ⟨x, hx⟩ : ∃ x, pt[j]? = some x := ⟨_, List.getElem?_eq_getElem hjl⟩
          have hdx : depth x ≤ d := by have := depths_at pt j x hx; simp only [depth] at hd; omega
          obtain ⟨cx, hI, hat⟩ := HPE.out.1.at j x hx
          obtain ⟨cy, hJ, hau⟩ := HPE.out.2.at j x hx
          obtain ⟨i1, D1, m1, r1, D2, m2, r2, D3, m3, r3, rfl⟩ := geom_shape hI
          obtain ⟨i2, F1, s1, t1, F2, s2, t2, F3, s3, t3, rfl⟩ := geom_shape hJ
          obtain ⟨b, o, rfl, _, _, hc1⟩ := (HRW.out.2.2.1.keeps (below_keeps hbw ok)).at (by intro e; have := hat 0 _ rfl; rw [e] at this; simp at this)
          obtain ⟨b', o', rfl, _, _, hc2⟩ := (HRW.out.2.2.2.keeps (below_keeps hbw ok2)).at (by intro e; have := hau 0 _ rfl; rw [e] at this; simp at this)
          have x0 := hc1 _ _ (hat 0 _ rfl)
          have x1 := hc1 _ _ (hat 1 _ rfl)
          have x2 := hc1 _ _ (hat 2 _ rfl)
          have x3 := hc1 _ _ (hat 3 _ rfl)
          have y0 := hc2 _ _ (hau 0 _ rfl)
          have y1 := hc2 _ _ (hau 1 _ rfl)
          have y2 := hc2 _ _ (hau 2 _ rfl)
          have y3 := hc2 _ _ (hau 3 _ rfl)
          rw [Nat.add_zero] at x0 y0
          rw [← Nat.add_assoc] at x1 x2 x3 y1 y2 y3
          have HIJ := Lib.hid (And.intro (hI.keeps (below_keeps hbw ok)) (hJ.keeps (below_keeps hbw ok2)))
          have HCL := Lib.hid (fun W (h1 : IsG ok W x _) (h2 : IsG ok2 W x _) => IH.out x ok ok2 [.int .i64 i1, .slice D1 m1 r1, .slice D2 m2 r2, .slice D3 m3 r3] [.int .i64 i2, .slice F1 s1 t1, .slice F2 s2 t2, .slice F3 s3 t3] W hdx h1 h2)
          clear hc1 hc2 hat hau hI hJ hx hbw
          go_upto_region 12 with (fail)
          go_cut [74] (fun y W => y = .bool false ∧ Hid (Below w1.heap.size w1 W))
          case first =>
            go_region_law (
              (try go_simp)
              go_at_call 29
              refine (HCL.out _ ?_ ?_).mono ?_
              · exact IsG.keeps (w := wr) (w' := wr.drew) (fun b o _ ho _ => ho) HIJ.out.1
              · exact IsG.keeps (w := wr) (w' := wr.drew) (fun b o _ ho _ => ho) HIJ.out.2
              rintro e w9 ⟨rfl, hb9⟩
              replace hb9 : Below wr.heap.size wr w9 := ⟨hb9.os, hb9.tape, hb9.output, hb9.size, hb9.block⟩
              have HB9 := Lib.hid (HBq.out.trans (hb9.mono HBq.out.size))
              clear hb9)
            all_goals
              go_wp2_with fail
              go_meet
              case rel => exact ⟨rfl, HB9⟩
          case rest =>
            obtain ⟨rfl, HBc⟩ := hcut
            go_wp2_with fail
            go_roundw
            · exact ⟨j + 1, hjl, by simp, HBc⟩
            · simp [intOf]; omega
        · go_wp2_with fail
          go_ret
          exact ⟨rfl, HB1.out.trans (HBq.out.mono (Nat.le_of_lt hl0))⟩
end Go.Proofs.YtlffgepnhhnadaaDoor.Pl
