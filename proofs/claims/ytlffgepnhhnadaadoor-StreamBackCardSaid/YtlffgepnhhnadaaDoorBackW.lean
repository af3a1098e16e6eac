/- plumblaw27.StreamBack, walked. -/
import Derived.Test.YtlffgepnhhnadaaDoorReadW
import Derived.Lib.SlBytesConst
namespace Go.Proofs.YtlffgepnhhnadaaDoor.Pl
open Go.RowKit

/-- wkb.Print of a shape's tree -/
theorem print_made {ok : Nat → Prop} {s : Shp} {cs : List Value} (w : World) (hs : s.ok) (hg : IsG ok w s.made cs) :
    Calls Tryd.prog 23 #[.agg cs.toArray, .bool s.lt] w fun e w' => ∃ r, e = .returned (.tuple #[r, .nilIface]) ∧ OwnB w.heap.size w' r (encG [s.lt] s.made 0) ∧ Below w.heap.size w w' := by
  have hw := made_weight s
  have he := made_enc hs s.lt
  have h := Print_any s.lt w hg (by have := depth_le s.made; omega) (small_of s.made (by omega)) (fun _ => by omega) (fun _ => by have := begun_le s.made; omega)
  unfold MixedPost at h
  refine h.mono ?_
  rintro e w' ⟨r, er, rfl, hb, h⟩
  rw [made_check hs] at h
  obtain ⟨h1, rfl⟩ := h
  exact ⟨r, rfl, h1, hb⟩

theorem same_true {ok ok2 : Nat → Prop} {v u : Value} {l : List UInt8} (w : World) (hv : Bytes ok w v l) (hu : Bytes ok2 w u l) :
    Calls Tryd.prog 26 #[v, u] w fun e w' => e = .returned (.bool true) ∧ Below w.heap.size w w' :=
  (same_any w hv hu).mono fun e w' ⟨h1, h2⟩ => ⟨by rw [h1]; simp, h2⟩
set_option maxRecDepth 100000 in
set_option maxHeartbeats 2000000 in
theorem back_any {v cv : Value} {l0 : List Shp} {cuts : List Int} (w : World) (hv : Shps w v l0) (hcu : Ints w cv cuts) (hg : ErrT w) :
    Calls Tryd.prog 5 #[v, cv] w fun e w' => e = .returned (.bool true) ∧ Below w.heap.size w w' := by
  have HFR := Lib.hid (framed_any w hv)
  have hok : ∀ s ∈ l0.take 30, s.ok := fun s hs => hv.2 s (List.mem_of_mem_take hs)
  have hll : (l0.take 30).length ≤ 30 := by rw [List.length_take]; exact Nat.min_le_left _ _
  have hpre : ∀ i s, (l0.take 30)[i]? = some s → l0[i]? = some s := fun i s h => by
    rw [List.getElem?_take] at h
    split at h
    · exact h
    · cases h
  obtain ⟨VA, vc, rfl, hvc, hvl, hvr⟩ := hv.1
  obtain ⟨CA, cc, rfl, hcc, hcl, hcr⟩ := hcu
  have HV := Lib.hid (And.intro hvr (And.intro hcr hpre))
  have hll0 : (l0.take 30).length ≤ l0.length := List.length_take_le' _ _
  clear hvr hcr hpre hv
  generalize l0.take 30 = l at *
  have hw0 : 0 < w.heap.size := lt_of_cell hg
  have hfl := flat_len l hok
  have HOK := Lib.hid (And.intro hok hg)
  clear hok hg
  go_enter Tryd.func5, Tryd.ntmps5
  go_wp2_with fail
  refine HFR.out.mono ?_
  rintro e w1 ⟨tv, rv, vs, rs, rfl, hU⟩
  obtain ⟨TA, tc, rfl, htc, _⟩ := Sl.of_own hU.tsl (by omega)
  obtain ⟨RA, rc, rfl, hrc, _⟩ := Sl.of_own hU.rsl (by omega)
  have hs1 := hU.below.size
  have HAL := Lib.hid (alive_any w1 (HOK.out.2.below hU.below))
  have HU := Lib.hid hU
  clear hU
  go_wp2_with fail
  refine HAL.out.mono ?_
  rintro e w2 ⟨rfl, hb2⟩
  have hs2 := hb2.size
  have H2 := Lib.hid (And.intro (HU.out.below.trans (hb2.mono hs1)) hb2)
  clear hb2 HAL HFR
  go_wp2_with fail
  go_loopw [8] (fun i W => ∃ k : Nat, k ≤ l.length ∧ i = .int .i64 k ∧ Hid (Below w2.heap.size w2 W)) (fun i _ => l.length - (intOf i).toNat)
  case atStart => exact ⟨0, Nat.zero_le _, rfl, Lib.hid (Below.refl _ _)⟩
  case round =>
    obtain ⟨k, hk, rfl, HB⟩ := hrel
    have hbw : Below w.heap.size w wr := H2.out.1.trans (HB.out.mono H2.out.1.size)
    have hb1 : Below w1.heap.size w1 wr := H2.out.2.trans (HB.out.mono hs2)
    have hsr := HB.out.size
    by_cases hkl : k < l.length
    · obtain ⟨s, hs⟩ : ∃ s, l[k]? = some s := ⟨_, List.getElem?_eq_getElem hkl⟩
      have hsk : s.ok := HOK.out.1 s (List.mem_of_getElem? hs)
      obtain ⟨sb, so, rfl, _, hsbl, hsc⟩ := HV.out.1.at (by intro e; have h := flat_cells l0 k s (HV.out.2.2 k s hs) 0 _ rfl; rw [e] at h; simp at h)
      have s5 := hsc _ _ (flat_cells l0 k s (HV.out.2.2 k s hs) 5 _ rfl)
      rw [← Nat.add_assoc] at s5
      have s5 := (hbw.cell (p := ⟨sb, so + k * 6 + 5, none⟩) hsbl).trans s5
      obtain ⟨cx, hI, hat⟩ := HU.out.tgs.at k s.made (by simp [hs])
      obtain ⟨i1, D1, m1, r1, D2, m2, r2, D3, m3, r3, rfl⟩ := geom_shape hI
      have htsl := Sl.of_own HU.out.tsl (by omega)
      obtain ⟨tb, to_, tk, hte, _, _, _, htbl, htcc⟩ := htsl.open (by intro e; have := hat 0 _ rfl; rw [e] at this; simp at this)
      simp only [Value.slice.injEq, true_and] at hte
      obtain ⟨rfl, rfl⟩ := hte
      have x0 := htcc _ _ (hat 0 _ rfl)
      have x1 := htcc _ _ (hat 1 _ rfl)
      have x2 := htcc _ _ (hat 2 _ rfl)
      have x3 := htcc _ _ (hat 3 _ rfl)
      rw [Nat.add_zero] at x0
      rw [← Nat.add_assoc] at x1 x2 x3
      obtain ⟨rx, hrx, hrb⟩ := HU.out.rbs.at k s.bytes (by simp [hs])
      have hrsl := Sl.of_own HU.out.rsl (by omega)
      obtain ⟨rb, ro, rk, hre, _, _, _, hrbl, hrcc⟩ := hrsl.open (by intro e; rw [e] at hrx; simp at hrx)
      simp only [Value.slice.injEq, true_and] at hre
      obtain ⟨rfl, rfl⟩ := hre
      have z0 := hrcc k rx hrx
      obtain ⟨XA, xc, rfl⟩ := hrb.1.shape
      have hrs1 : s.bytes.length ≤ 4012 := (rec_len hsk).2
      have HREC := Lib.hid ((hrb.1.under hb1).any (by omega))
      have hbt : tb < wr.heap.size := Nat.lt_of_lt_of_le htbl hb1.size
      have hbs : sb < wr.heap.size := lt_of_cell s5
      have hbr : rb < wr.heap.size := Nat.lt_of_lt_of_le hrbl hb1.size
      have HSK : Hid (∀ W : World, Below wr.heap.size wr W → W.cell? ⟨tb, to_ + k * 4, none⟩ = some (.int .i64 i1) ∧ W.cell? ⟨tb, to_ + k * 4 + 1, none⟩ = some (.slice D1 m1 r1) ∧ W.cell? ⟨tb, to_ + k * 4 + 2, none⟩ = some (.slice D2 m2 r2) ∧ W.cell? ⟨tb, to_ + k * 4 + 3, none⟩ = some (.slice D3 m3 r3) ∧ W.cell? ⟨sb, so + k * 6 + 5, none⟩ = some (.bool s.lt)) :=
        Lib.hid fun W hW => ⟨(hW.cell (p := ⟨tb, to_ + k * 4, none⟩) hbt).trans ((hb1.cell (p := ⟨tb, to_ + k * 4, none⟩) htbl).trans x0), (hW.cell (p := ⟨tb, to_ + k * 4 + 1, none⟩) hbt).trans ((hb1.cell (p := ⟨tb, to_ + k * 4 + 1, none⟩) htbl).trans x1),
          (hW.cell (p := ⟨tb, to_ + k * 4 + 2, none⟩) hbt).trans ((hb1.cell (p := ⟨tb, to_ + k * 4 + 2, none⟩) htbl).trans x2), (hW.cell (p := ⟨tb, to_ + k * 4 + 3, none⟩) hbt).trans ((hb1.cell (p := ⟨tb, to_ + k * 4 + 3, none⟩) htbl).trans x3), (hW.cell (p := ⟨sb, so + k * 6 + 5, none⟩) hbs).trans s5⟩
      have HZ := Lib.hid ((hb1.cell (p := ⟨rb, ro + k, none⟩) hrbl).trans z0)
      have hbd := below_drew0 wr
      have HPR := Lib.hid (print_made wr.drew hsk ((hI.keeps (below_keeps hb1 _)).keeps (below_keeps hbd _)))
      have hki : (k : Int) < (l.length : Int) := by omega
      have hki0 : (k : Int) < (l0.length : Int) := by omega
      have hke := made_enc hsk s.lt
      have hke2 := encG_ne [s.lt] s.made 0
      have HBY := Lib.hid (show frameB (encG [s.lt] s.made 0) = s.bytes from rfl)
      clear hat hI x0 x1 x2 x3 z0 s5 hsc htcc hrcc hrb hrx hs htsl hrsl hb1 hbd hbw
      generalize encG [s.lt] s.made 0 = wb at *
      go_upto_region 7 with (fail)
      go_region_held3 (fun W => W.cell? ⟨tb, to_ + k * 4, none⟩ = some (.int .i64 i1) ∧ W.cell? ⟨tb, to_ + k * 4 + 1, none⟩ = some (.slice D1 m1 r1) ∧ W.cell? ⟨tb, to_ + k * 4 + 2, none⟩ = some (.slice D2 m2 r2) ∧ W.cell? ⟨tb, to_ + k * 4 + 3, none⟩ = some (.slice D3 m3 r3) ∧ W.cell? ⟨sb, so + k * 6 + 5, none⟩ = some (.bool s.lt))
        (first
          | exact HSK.out _ (below_drew0 _)
          | exact HSK.out _ HB4.out)
        ((first
          | (go_at_call 23
             refine HPR.out.mono ?_
             rintro e w4 ⟨pr, rfl, hpr, hb4⟩
             replace hb4 : Below wr.heap.size wr w4 := below_drew1 hb4
             have HB4 := Lib.hid hb4
             have HPO := Lib.hid (show OwnB wr.heap.size w4 pr wb from hpr)
             clear hb4 hpr)))
      all_goals
        obtain ⟨PA, pc, hpe⟩ := HPO.out.shape
        subst hpe
        have hs4 := HB4.out.size
        obtain ⟨w5, hw5⟩ : ∃ w5, w5 = w4.alloc (.cells #[.int .u8 80, .int .u8 76, .int .u8 77, .int .u8 49] 5 (4, 5)) := ⟨_, rfl⟩
        have hb5 : Below w4.heap.size w4 w5 := by rw [hw5]; exact (Below.refl _ w4).alloc (Nat.le_refl _) _
        have hx5 : w5.heap[w4.heap.size]? = some (.cells #[.int .u8 80, .int .u8 76, .int .u8 77, .int .u8 49] 5 (4, 5)) := by rw [hw5]; exact World.alloc_heap_new _ _
        have hmk : Bytes (fun _ => True) w5 (.slice (some ⟨w4.heap.size, 0, none⟩) 4 4) markB :=
          ⟨_, _, rfl, by decide, by decide, .inr ⟨_, _, rfl, trivial, fun i c h => by rw [Nat.zero_add]; exact cell_rowF hx5 (by simpa [markB, bv] using h)⟩⟩
        have HP4 := Lib.hid (Put32_any wb.length false w5 hmk (by decide))
        have hs5 := hb5.size
        have HO5 := Lib.hid (And.intro (HPO.out.under hb5) (HB4.out.trans (hb5.mono hs4)))
        have hwu : IntKind.u32.wrap (wb.length : Int) = (wb.length : Int) := by rw [wrap_u32n]; omega
        have hcs := Lib.run_convert_bytes_const (P := Tryd.prog) w4 35 5 #[.int .u8 80, .int .u8 76, .int .u8 77, .int .u8 49] 4 4 Tryd.underlying35 Tryd.underlying5
        rw [show (#[Value.int .u8 80, .int .u8 76, .int .u8 77, .int .u8 49] : Array Value).size = 4 from rfl] at hcs
        clear hb5 hx5 hmk
        go_wp2_with fail
        rw [← hw5]
        clear hw5 hcs
        refine HP4.out.mono ?_
        rintro e w6 ⟨r6, rfl, ho6, hb6⟩
        have hs6 := hb6.size
        have hlm : (markB ++ encB 4 wb.length false).length = 8 := by rw [List.length_append, encB_length]; rfl
        have H6 := Lib.hid (And.intro ho6 (And.intro (HO5.out.1.under hb6) (And.intro (HO5.out.2.trans (hb6.mono HO5.out.2.size)) hlm)))
        clear ho6 hb6 hlm HP4
        go_wp2_with (first
          | (at_builtin
             go_must (
             refine (list_append_bs rfl (.tmp 53) (.tmp 54) rfl r6 (.slice PA wb.length pc) (by rfl) (by rfl) H6.out.1 (H6.out.2.1.any (by omega)) (by rw [H6.out.2.2.2]; omega) hs6 ?_)
             intro r7 w7 ho7 hgr7 hg7
             have hb7 := H6.out.2.2.1.grown hgr7 H6.out.2.2.1.size (fun k e => by have := (World.ownsRow.lt H6.out.1 k e).1; omega)
             have hl7 : (markB ++ encB 4 wb.length false ++ wb).length = 8 + wb.length := by rw [List.length_append, H6.out.2.2.2]
             have ho7 : OwnB w5.heap.size w7 r7 (headB wb) := ho7
             have hl7 : (headB wb).length = 8 + wb.length := hl7
             have HS := Lib.hid (Sum_any w7 (ho7.any (by omega)))
             have HP7 := Lib.hid (Put32_any (sumR (headB wb)) false w7 (ho7.any (by omega)) (by omega))
             have H7 := Lib.hid (And.intro hb7 hl7)
             clear ho7 hgr7 hg7 hb7 hl7))
          | fail)
        refine HS.out.mono ?_
        rintro e w' ⟨rfl, rfl⟩
        go_wp2_with fail
        refine HP7.out.mono ?_
        rintro e w8 ⟨r8, rfl, ho8, hb8⟩
        rw [show headB wb ++ encB 4 (sumR (headB wb)) false = frameB wb from rfl, HBY.out] at ho8
        have hb18 : Below wr.heap.size wr w8 := H7.out.1.trans (hb8.mono H7.out.1.size)
        have z8 := (hb18.cell (p := ⟨rb, ro + k, none⟩) hbr).trans HZ.out
        have HSA := Lib.hid (same_true w8 (ho8.any (by omega)) (HREC.out.keepB hb18))
        have HB8 := Lib.hid (HB.out.trans (hb18.mono hsr))
        clear ho8 hb8 hb18
        go_wp2_with fail
        refine HSA.out.mono ?_
        rintro e w9 ⟨rfl, hb9⟩
        have HB9 := Lib.hid (HB8.out.trans (hb9.mono HB8.out.size))
        clear hb9
        go_wp2_with fail
        go_roundw
        · exact ⟨k + 1, hkl, by simp, HB9⟩
        · simp [intOf]; omega
    · have hbw2 := hbw
      have HJ := Lib.hid (joined_any (ok2 := fun _ => True) wr ((Sl.of_own HU.out.rsl (by omega)).keeps (below_keeps hb1 _)) (bs := l.map Shp.bytes) (by simp) (recs_bytes HU.out.rbs HOK.out.1 hb1) (by omega))
      have hBB : (l.map Shp.bytes).flatten ++ [] = (l.map Shp.bytes).flatten := by simp
      have hfd := feed_shapes l HOK.out.1 []
      rw [feed_nil, hBB] at hfd
      simp only [List.append_nil, Nat.add_zero] at hfd
      have HFD := Lib.hid hfd
      have HW := Lib.hid (And.intro hbw hb1)
      clear hbw hb1 hfd hBB hbw2
      generalize (l.map Shp.bytes).flatten = BB at *
      have hki : ¬ (k : Int) < (l.length : Int) := by omega
      go_wp2_with fail
      refine HJ.out.mono ?_
      rintro e w3 ⟨r3, rfl, ho3, hb3⟩
      have hs3 := hb3.size
      have hrd := read_any (cs := cuts) 256 w3 (ho3.any (by omega)) ⟨_, _, rfl, hcc, hcl, HV.out.2.1.keeps (below_keeps (HW.out.1.trans (hb3.mono HW.out.1.size)) _)⟩ (by omega) (HOK.out.2.below (HW.out.1.trans (hb3.mono HW.out.1.size)))
      have HRD := Lib.hid hrd
      have H3 := Lib.hid (And.intro (HW.out.1.trans (hb3.mono HW.out.1.size)) (HW.out.2.trans (hb3.mono HW.out.2.size)))
      clear hrd hb3 ho3 HJ
      go_wp2_with fail
      refine HRD.out.mono ?_
      rintro e w4 ⟨av, fv, rfl, rl, bp, hRF, hRl⟩
      rw [HFD.out] at hRF hRl
      have hfv : fv = .nilIface := hRF.err
      have hrl : rl = [] := hRl rfl
      subst hfv hrl
      have hb4 := hRF.below
      have hs4 := hb4.size
      have hlm : (l.map Shp.made).length = l.length := List.length_map _
      obtain ⟨vs4, hv4, hg4⟩ := hRF.own
      have hst := hRF.st
      simp only [hlm] at hv4 hst
      obtain ⟨OA, oc, hav, hoc, _⟩ := Sl.of_own hv4 (by omega)
      subst hav
      have HWT := Lib.hid (Waiting_any w4 hst)
      have HCT := Lib.hid (Count_any w4 hst)
      have H4 := Lib.hid (And.intro (Sl.of_own hv4 (by omega)) (And.intro hg4 (And.intro (((Sl.of_own HU.out.tsl (by omega)).keeps (below_keeps (H3.out.2.trans (hb4.mono H3.out.2.size)) _))) (And.intro (HU.out.tgs.keeps (below_keeps (H3.out.2.trans (hb4.mono H3.out.2.size)) _)) (H3.out.1.trans (hb4.mono H3.out.1.size))))))
      clear hRF hv4 hg4 hst hb4 HRD hlm hRl
      go_wp2_with fail
      refine HWT.out.mono ?_
      rintro e w' ⟨rfl, rfl⟩
      go_wp2_with fail
      refine HCT.out.mono ?_
      rintro e w' ⟨rfl, rfl⟩
      go_wp2_with fail
      have HQA := Lib.hid (show Row (fun b => w3.heap.size ≤ b) w4 OA vs4 ∧ Row (fun b => w.heap.size ≤ b) w4 TA vs from by
        obtain ⟨A1, c1, e1, _, _, q1⟩ := H4.out.1
        obtain ⟨A2, c2, e2, _, _, q2⟩ := H4.out.2.2.1
        cases e1; cases e2
        exact ⟨q1, q2⟩)
      go_loopw [15] (fun i W => ∃ k : Nat, k ≤ l.length ∧ i = .int .i64 k ∧ Hid (Below w4.heap.size w4 W)) (fun i _ => l.length - (intOf i).toNat)
      case atStart => exact ⟨0, Nat.zero_le _, rfl, Lib.hid (Below.refl _ _)⟩
      case round =>
        obtain ⟨k, hk, rfl, HB⟩ := hrel
        by_cases hkn : k < l.length
        · obtain ⟨x, hx⟩ : ∃ x, (l.map Shp.made)[k]? = some x := ⟨_, List.getElem?_eq_getElem (by rw [List.length_map]; exact hkn)⟩
          obtain ⟨cx, hI, hat⟩ := H4.out.2.1.at k x hx
          obtain ⟨cy, hJ, hau⟩ := H4.out.2.2.2.1.at k x hx
          obtain ⟨i1, D1, m1, r1, D2, m2, r2, D3, m3, r3, rfl⟩ := geom_shape hI
          obtain ⟨i2, F1, s1, t1, F2, s2, t2, F3, s3, t3, rfl⟩ := geom_shape hJ
          obtain ⟨b, o, rfl, _, hbl, hc1⟩ := HQA.out.1.at (by intro e; have := hat 0 _ rfl; rw [e] at this; simp at this)
          obtain ⟨b', o', rfl, _, hbl', hc3⟩ := HQA.out.2.at (by intro e; have := hau 0 _ rfl; rw [e] at this; simp at this)
          have x0 := hc1 _ _ (hat 0 _ rfl)
          have x1 := hc1 _ _ (hat 1 _ rfl)
          have x2 := hc1 _ _ (hat 2 _ rfl)
          have x3 := hc1 _ _ (hat 3 _ rfl)
          have y0 := hc3 _ _ (hau 0 _ rfl)
          have y1 := hc3 _ _ (hau 1 _ rfl)
          have y2 := hc3 _ _ (hau 2 _ rfl)
          have y3 := hc3 _ _ (hau 3 _ rfl)
          rw [Nat.add_zero] at x0 y0
          rw [← Nat.add_assoc] at x1 x2 x3 y1 y2 y3
          have HSK : Hid (∀ W : World, Below w4.heap.size w4 W → W.cell? ⟨b, o + k * 4, none⟩ = some (.int .i64 i1) ∧ W.cell? ⟨b, o + k * 4 + 1, none⟩ = some (.slice D1 m1 r1) ∧ W.cell? ⟨b, o + k * 4 + 2, none⟩ = some (.slice D2 m2 r2) ∧ W.cell? ⟨b, o + k * 4 + 3, none⟩ = some (.slice D3 m3 r3) ∧
              W.cell? ⟨b', o' + k * 4, none⟩ = some (.int .i64 i2) ∧ W.cell? ⟨b', o' + k * 4 + 1, none⟩ = some (.slice F1 s1 t1) ∧ W.cell? ⟨b', o' + k * 4 + 2, none⟩ = some (.slice F2 s2 t2) ∧ W.cell? ⟨b', o' + k * 4 + 3, none⟩ = some (.slice F3 s3 t3)) :=
            Lib.hid fun W hW => ⟨(hW.cell (p := ⟨b, o + k * 4, none⟩) hbl).trans x0, (hW.cell (p := ⟨b, o + k * 4 + 1, none⟩) hbl).trans x1, (hW.cell (p := ⟨b, o + k * 4 + 2, none⟩) hbl).trans x2, (hW.cell (p := ⟨b, o + k * 4 + 3, none⟩) hbl).trans x3,
              (hW.cell (p := ⟨b', o' + k * 4, none⟩) hbl').trans y0, (hW.cell (p := ⟨b', o' + k * 4 + 1, none⟩) hbl').trans y1, (hW.cell (p := ⟨b', o' + k * 4 + 2, none⟩) hbl').trans y2, (hW.cell (p := ⟨b', o' + k * 4 + 3, none⟩) hbl').trans y3⟩
          have hbd : Below w4.heap.size w4 wr.drew := ⟨HB.out.os, HB.out.tape, HB.out.output, HB.out.size, HB.out.block⟩
          have HE := Lib.hid (Equal_same (depth x) x _ _ [.int .i64 i1, .slice D1 m1 r1, .slice D2 m2 r2, .slice D3 m3 r3] [.int .i64 i2, .slice F1 s1 t1, .slice F2 s2 t2, .slice F3 s3 t3] wr.drew (Nat.le_refl _) (hI.keeps (below_keeps hbd _)) (hJ.keeps (below_keeps hbd _)))
          have HBD := Lib.hid hbd
          have hki : (k : Int) < (l.length : Int) := by omega
          clear hc1 hc3 hat hau hI hJ hx hbd x0 x1 x2 x3 y0 y1 y2 y3
          go_upto_region 19 with (fail)
          go_cut [119] (fun z W => z = .bool false ∧ Hid (Below w4.heap.size w4 W))
          case first =>
            go_region_held3 (fun W => W.cell? ⟨b, o + k * 4, none⟩ = some (.int .i64 i1) ∧ W.cell? ⟨b, o + k * 4 + 1, none⟩ = some (.slice D1 m1 r1) ∧ W.cell? ⟨b, o + k * 4 + 2, none⟩ = some (.slice D2 m2 r2) ∧ W.cell? ⟨b, o + k * 4 + 3, none⟩ = some (.slice D3 m3 r3) ∧
                W.cell? ⟨b', o' + k * 4, none⟩ = some (.int .i64 i2) ∧ W.cell? ⟨b', o' + k * 4 + 1, none⟩ = some (.slice F1 s1 t1) ∧ W.cell? ⟨b', o' + k * 4 + 2, none⟩ = some (.slice F2 s2 t2) ∧ W.cell? ⟨b', o' + k * 4 + 3, none⟩ = some (.slice F3 s3 t3))
              (first
                | exact HSK.out _ HBD.out
                | exact HSK.out _ HB9.out)
              ((first
                | (go_at_call 29
                   refine HE.out.mono ?_
                   rintro e w9 ⟨rfl, hb9⟩
                   have HB9 := Lib.hid (HBD.out.trans (hb9.mono HBD.out.size))
                   clear hb9)))
            all_goals
              go_wp2_with fail
              go_meet
              case rel => exact ⟨rfl, HB9⟩
          case rest =>
            obtain ⟨rfl, HBc⟩ := hcut
            go_wp2_with fail
            go_roundw
            · exact ⟨k + 1, hkn, by simp, HBc⟩
            · simp [intOf]; omega
        · go_wp2_with fail
          go_ret
          exact ⟨rfl, H4.out.2.2.2.2.trans (HB.out.mono H4.out.2.2.2.2.size)⟩
end Go.Proofs.YtlffgepnhhnadaaDoor.Pl
