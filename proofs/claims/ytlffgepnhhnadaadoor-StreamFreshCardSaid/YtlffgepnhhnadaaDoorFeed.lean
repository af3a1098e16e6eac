/- stream.Reader.Feed, walked. -/
import Derived.Test.YtlffgepnhhnadaaDoorFeedS
namespace Go.Proofs.YtlffgepnhhnadaaDoor.Pl
open Go.RowKit

set_option maxRecDepth 100000 in
set_option maxHeartbeats 2000000 in
theorem Feed_any {B rb : Nat} {ok : Nat → Prop} {pv : Value} {depth begin_ count : Int} {l m : List UInt8} (w : World) (hs : IsSt B w rb depth l begin_ count (.pointer none)) (hm : Bytes ok w pv m) (hl : l.length + m.length ≤ 1073741824) (hbc : 0 ≤ begin_ ∧ begin_ ≤ 1152921504606846976 ∧ 0 ≤ count ∧ count ≤ 1152921504606846976) (hg : ErrT w) (hB : B ≤ w.heap.size) (hB0 : 0 < B) :
    Calls Tryd.prog 32 #[.pointer (some ⟨rb, 0, none⟩), pv] w (FeedPost B w rb depth begin_ count (feedR depth ((l ++ m).length + 1) (l ++ m))) := by
  obtain ⟨wv, hblk, hwt⟩ := hs.mem
  have hrl := hs.lt
  have hbase := hs.base
  obtain ⟨r, hr⟩ : ∃ r, feedR depth ((l ++ m).length + 1) (l ++ m) = r := ⟨_, rfl⟩
  rw [hr]
  have HRR := Lib.hid hr
  clear hr
  have c0 := cell_row (cs := [_, _, _, _, _]) (j := 0) hblk rfl
  have c1 := cell_row (cs := [_, _, _, _, _]) (j := 1) hblk rfl
  have c4 := cell_row (cs := [_, _, _, _, _]) (j := 4) hblk rfl
  have fr1 := frozen_row (cs := [_, _, _, _, _]) hblk 1
  have HW := Lib.hid hwt
  have HM := Lib.hid hm
  have HB := Lib.hid hblk
  have HG := Lib.hid hg
  clear hblk hwt hm hg hs
  go_enter Tryd.func32, Tryd.ntmps32
  go_upto_region 4 with (first
    | (refine (list_appendW rfl (.tmp 27) (.tmp 28) rfl wv pv rfl rfl HW.out HM.out (by omega) hB hrl ?_)
       intro v1 w1 hw1 hgr1 ho1
       obtain ⟨A1, k1, rfl, _, _⟩ := hw1.shape
       have hne1 : wv.ownBlock ≠ some rb := fun e => (HW.out.own rb e).2.1 rfl
       have fr2 : w1.frozen? ⟨rb, 1, none⟩ = false := by rw [World.frozen?_of_block (w := w) (hgr1.block rb hrl (fun e => hne1 e.symm))]; exact fr1
       have cc1 : w1.cell? ⟨rb, 1, none⟩ = some wv := hgr1.cell (a := ⟨rb, 1, none⟩) c1 (fun e => hne1 e.symm)
       have HA := Lib.hid (And.intro hw1 (And.intro hgr1 ho1))
       clear hw1 hgr1 ho1)
    | fail)
  obtain ⟨w2, hw2⟩ : ∃ w2, w2 = w1.setCell ⟨rb, 1, none⟩ (.slice A1 (l.length + m.length) k1) := ⟨_, rfl⟩
  rw [← hw2]
  have hnn : (l ++ m).length = l.length + m.length := List.length_append
  have hset : ∀ b, b ≠ rb → w2.heap[b]? = w1.heap[b]? := fun b hb => by rw [hw2]; exact Below.heap_setCell w1 ⟨rb, 1, none⟩ _ b hb
  have hsz : w2.heap.size = w1.heap.size := by rw [hw2]; simp [World.setCell]
  have hr1 := (HA.out.2.1.block rb hrl (fun e => hne1 e.symm)).trans HB.out
  have hr2 := heap_store (cs := [_, _, _, _, _]) hr1 (j := 1) (.slice A1 (l.length + m.length) k1)
  rw [← hw2] at hr2
  have hr2' : w2.heap[rb]? = some (.cells #[.int .i64 depth, .slice A1 (l.length + m.length) k1, .int .i64 begin_, .int .i64 count, .pointer none] 89 (0, 0)) := by simpa using hr2
  have hwS : WaitS B rb w2 (.slice A1 (l.length + m.length) k1) (l ++ m) := by
    have h := HA.out.1
    rw [hnn] at h
    exact h.keep (by omega) fun g hg => hset g (h.own g hg).2.1
  have how := hwS.own
  have hB2 : Below B w w2 := by
    rw [hw2]
    exact ((Below.refl B w).grown HA.out.2.1 hB (fun k e => (HW.out.own k e).1)).setCell hbase _
  have hK2 : KeepS rb w w2 := fun b ⟨h1, h2, h3⟩ => by
    have hno := h3 wv c1
    refine ⟨(hset b h2).trans (HA.out.2.1.block b h1 (fun e => hno e.symm)), by have := HA.out.2.1.size; omega, h2, fun v hv => ?_⟩
    simp [World.cell?, hr2'] at hv
    subst hv
    have h := HA.out.2.2
    rw [hnn] at h
    rcases h with h | ⟨g, h, hgs⟩
    · rw [h]; exact hno
    · rw [h]; simp only [ne_eq, Option.some.injEq]; omega
  have hg2 : ErrT w2 := (hB2.cell (p := ⟨0, 0, none⟩) hB0).trans HG.out
  have HST := Lib.hid (LoopS.mk (B := B) (w1 := w2) (rb := rb) (ow := (Value.slice A1 (l.length + m.length) k1).ownBlock) (depth := depth) (begin_ := begin_) (count := count) (acc := []) (n := 0) (l := l ++ m) (sv := .slice none 0 0) (W := w2) ⟨rfl, rfl, rfl, Nat.le_refl _, fun _ _ _ => rfl⟩ hbase (lt_of_heap hr2') (fun g hg => (how g hg).2.2) ⟨_, [], by simpa using hr2', hwS, rfl, ⟨by simp, .inl ⟨rfl, rfl⟩⟩, IsNA.nil _ _⟩)
  have HFIN := Lib.hid (And.intro hB2 (And.intro hK2 hg2))
  have HOW : Hid ((∀ v, w2.cell? ⟨rb, 1, none⟩ = some v → v.ownBlock = (Value.slice A1 (l.length + m.length) k1).ownBlock) ∧ ∃ v, w2.cell? ⟨rb, 1, none⟩ = some v) := Lib.hid (by simp [World.cell?, hr2'])
  have hws2 : w.heap.size ≤ w2.heap.size := by have := HA.out.2.1.size; omega
  clear hset hsz hr1 hr2 hr2' hwS hB2 hK2 hg2 hw2 how fr2 cc1 HA c0 c1 c4 fr1 hne1
  go_wp2_with fail
  go_loopw [6] (fun x W => ∃ acc n f l', Hid (LoopS B w2 rb (Value.slice A1 (l.length + m.length) k1).ownBlock depth begin_ count acc n l' x W) ∧ Hid (feedK depth r acc n f l') ∧ l'.length < f ∧ n + l'.length = l.length + m.length ∧ acc.length ≤ n) (fun _ W => lenAt W rb)
  case atStart =>
    exact ⟨[], 0, (l ++ m).length + 1, l ++ m, HST.out, by show feedK _ _ _ _ _ _; unfold feedK; rw [HRR.out]; simp, by omega, by omega, by simp⟩
  case round =>
    obtain ⟨acc, n, f, l', HL, HK, hf, hnl, han⟩ := hrel
    obtain ⟨wv', vs, m1, m2, m3, m4, m5⟩ := HL.out.mem
    obtain ⟨A', k', hv', hk1, hk2⟩ := m2.shape
    subst hv'
    have c0 := cell_row (cs := [_, _, _, _, _]) (j := 0) m1 rfl
    have c1 := cell_row (cs := [_, _, _, _, _]) (j := 1) m1 rfl
    have hrw := lt_of_heap m1
    have hgw : ErrT wr := by
      refine (World.cell?_of_block (w := w2) (a := ⟨0, 0, none⟩) (HL.out.grown.block 0 (lt_of_cell HFIN.out.2.2) (fun e => ?_))).trans HFIN.out.2.2
      have := Option.some.inj e
      omega
    have HREC := Lib.hid (fun W (hW : ErrT W) (hb : Bytes (fun b => (Value.slice A' l'.length k').ownBlock = some b) W (.slice A' l'.length k') l') => record_any depth W hW hb)
    have HWM := Lib.hid (And.intro hgw (m2.bytes (by omega)))
    have HMM := Lib.hid (And.intro m1 (And.intro m2 (And.intro m3 (And.intro m4 m5))))
    obtain ⟨wa, hwa⟩ : ∃ wa, wa = wr.alloc (.cells #[.int .i64 0, .slice none 0 0, .slice none 0 0, .slice none 0 0] 51) := ⟨_, rfl⟩
    have hba : Below wr.heap.size wr wa := by rw [hwa]; exact (Below.refl _ wr).alloc (Nat.le_refl _) _
    have hxa : wa.heap[wr.heap.size]? = some (.cells #[.int .i64 0, .slice none 0 0, .slice none 0 0, .slice none 0 0] 51 (0, 0)) := by rw [hwa]; exact World.alloc_heap_new _ _
    have HWA := Lib.hid (And.intro (hgw.below hba) (And.intro ((m2.bytes (by omega)).keeps (below_keeps hba _)) hxa))
    have ca0 := (hba.cell (p := ⟨rb, 0, none⟩) hrw).trans c0
    have ca1 := (hba.cell (p := ⟨rb, 1, none⟩) hrw).trans c1
    rw [hwa] at ca0 ca1 HWA
    clear m1 m2 m3 m4 m5 hgw hba hxa
    go_upto_region 5 with (fail)
    go_cut [7, 8, 9] (fun x7 x8 x9 W => RecV wr (recR l' depth) x7 x8 x9 W)
    case first =>
      clear hwa
      go_region_law (first
        | ((try go_simp)
           go_at_call 52
           refine (HREC.out _ ?_ ?_).mono ?_
           · exact HWA.out.1
           · exact HWA.out.2.1
           intro e w3 hrp
           obtain ⟨ki, B1, n1, c1, B2, n2, c2, B3, n3, c3, n4, fv, rfl, hb3, hm3⟩ := recM_of hrp
           have hx3 := (hb3.block _ (lt_of_heap HWA.out.2.2)).trans HWA.out.2.2
           have z0 := cell_row (cs := [_, _, _, _]) (j := 0) hx3 rfl
           have z1 := cell_row (cs := [_, _, _, _]) (j := 1) hx3 rfl
           have z2 := cell_row (cs := [_, _, _, _]) (j := 2) hx3 rfl
           have z3 := cell_row (cs := [_, _, _, _]) (j := 3) hx3 rfl
           have f0 := frozen_row (cs := [_, _, _, _]) hx3 0
           have f1 := frozen_row (cs := [_, _, _, _]) hx3 1
           have f2 := frozen_row (cs := [_, _, _, _]) hx3 2
           have f3 := frozen_row (cs := [_, _, _, _]) hx3 3
           have HV : Hid (∀ W, W = (((w3.setCell ⟨wr.heap.size, 0, none⟩ (.int .i64 ki)).setCell ⟨wr.heap.size, 1, none⟩ (.slice B1 n1 c1)).setCell ⟨wr.heap.size, 2, none⟩ (.slice B2 n2 c2)).setCell ⟨wr.heap.size, 3, none⟩ (.slice B3 n3 c3) → RecV wr (recR l' depth) (.pointer (some ⟨wr.heap.size, 0, none⟩)) (.int .i64 n4) fv W) := Lib.hid fun W hW => recV_first rfl (w3 := w3) (by exact ⟨hb3.os, hb3.tape, hb3.output, hb3.size, hb3.block⟩) hm3 hW
           clear hrp hm3 hb3 hx3)
        | ((try go_simp)
           go_at_call 52
           refine (HREC.out _ ?_ ?_).mono ?_
           · exact HWM.out.1
           · exact HWM.out.2
           intro e w3 hrp
           obtain ⟨ki, B1, n1, c1, B2, n2, c2, B3, n3, c3, n4, fv, rfl, hb3, hm3⟩ := recM_of hrp
           replace hb3 : Below wr.heap.size wr w3 := by first | exact hb3 | exact below_drewB hb3 | exact below_drewB1 hb3
           have HV : Hid (RecV wr (recR l' depth) (.pointer (some ⟨w3.heap.size, 0, none⟩)) (.int .i64 n4) fv (w3.alloc (.cells #[.int .i64 ki, .slice B1 n1 c1, .slice B2 n2 c2, .slice B3 n3 c3] 51))) := Lib.hid (recV_after hb3 hm3)
           clear hrp hm3 hb3))
      all_goals
        go_wp2_with fail
        go_meet
        case rel => first | exact HV.out _ rfl | exact HV.out
    case rest =>
      obtain ⟨gb, ki, B1, n1, d1, B2, n2, d2, B3, n3, d3, n4, rfl, rfl, hbc, hgc, hmc⟩ := hcut
      have HLC := Lib.hid (And.intro hbc hgc)
      have hszc := hbc.size
      have hszw := HL.out.grown.size
      have hdone := HL.out.done HFIN.out.1 HFIN.out.2.1 hws2 HOW.out.1 HOW.out.2 (by omega)
      have hfK := HK.out
      obtain ⟨f', rfl⟩ : ∃ f', f = f' + 1 := ⟨f - 1, by omega⟩
      clear HREC HWM HWA ca0 ca1 c0 hwa hbc hgc
      cases hrec : recR l' depth with
      | wait =>
        rw [hrec] at hmc
        obtain ⟨rfl, rfl⟩ := hmc
        have hres : r = (acc, n, l', none) := by unfold feedK at hfK; rw [hfK]; simp [feedR, hrec]
        have HF := Lib.hid (FeedSt.below hdone HLC.out.1 (Nat.le_trans (Nat.le_trans hB HFIN.out.1.size) hszw))
        clear hfK hdone
        obtain ⟨vs', _, hsl⟩ : ∃ A k, u6 = .slice A acc.length k := by
          obtain ⟨_, _, ⟨_, ⟨A, k, h, _⟩, _⟩, _⟩ := HF.out
          exact ⟨A, k, h⟩
        subst hsl
        go_wp2
        go_ret2
        subst hres
        obtain ⟨h1, h2, ⟨vs2, h3, h4⟩, h5⟩ := HF.out
        exact ⟨_, _, vs2, rfl, h1, h2, h3, h4, rfl, h5⟩
      | bad a c =>
        rw [hrec] at hmc
        obtain ⟨rfl, fb, rfl, hfl, hfb⟩ := hmc
        have hres : r = (acc, n, l', some (a, c)) := by unfold feedK at hfK; rw [hfK]; simp [feedR, hrec]
        have hBw : B ≤ wr.heap.size := Nat.le_trans (Nat.le_trans hB HFIN.out.1.size) hszw
        have HBR := Lib.hid (fun p W2 hW2 => FeedSt.broke (p := p) (W2 := W2) hdone HLC.out.1 hBw (Nat.le_trans hws2 hszw) hfb hfl hW2)
        have HRES := Lib.hid hres
        obtain ⟨vs', k5, hsl⟩ : ∃ A k, u6 = .slice A acc.length k := by
          obtain ⟨_, _, ⟨_, ⟨A, k, h, _⟩, _⟩, _⟩ := hdone
          exact ⟨A, k, h⟩
        subst hsl
        have hrc := (HLC.out.1.block _ hrw).trans HMM.out.1
        have r2 := cell_row (cs := [_, _, _, _, _]) (j := 2) hrc rfl
        have r4 := cell_row (cs := [_, _, _, _, _]) (j := 4) hrc rfl
        have q4 := frozen_row (cs := [_, _, _, _, _]) hrc 4
        have e0 := cell_row (cs := [_, _]) (j := 0) hfb rfl
        have e1 := cell_row (cs := [_, _]) (j := 1) hfb rfl
        have ef := frozen_row (cs := [_, _]) hfb 0
        have hne : ¬ fb = rb := by omega
        have hne2 : ¬ rb = fb := by omega
        clear hfK hdone hfb hres hrc hfl
        go_wp2
        go_region
        go_upto_region 9 with (fail)
        obtain ⟨W2, hW2⟩ : ∃ W2, W2 = (wc.setCell ⟨fb, 0, none⟩ (.int .i64 (wrap64 (a + (begin_ + n))))).setCell ⟨rb, 4, none⟩ (.pointer (some ⟨fb, 0, none⟩)) := ⟨_, rfl⟩
        obtain ⟨t1, t2, t3, t4⟩ := HBR.out _ _ hW2
        rw [← hW2]
        clear hW2 HBR
        obtain ⟨p, hp⟩ : ∃ p, wrap64 (a + (begin_ + n)) = p := ⟨_, rfl⟩
        rw [hp] at t3
        have x0 := cell_row (cs := [_, _]) (j := 0) t3 rfl
        have x1 := cell_row (cs := [_, _]) (j := 1) t3 rfl
        have hfl2 := lt_of_heap t3
        have hg2' : ErrT W2 := (t4.cell (p := ⟨0, 0, none⟩) hB0).trans HG.out
        have hB2' : B ≤ W2.heap.size := Nat.le_trans hB t4.size
        have hw2' := t4.size
        have HC := Lib.hid (fun W (hW : ErrT W) (h0 : W.cell? ⟨fb, 0, none⟩ = some (.int .i64 p)) (h1 : W.cell? ⟨fb, 1, none⟩ = some (.iface 22 (.int .i64 c))) => code_any (ok := fun _ => True) (some (p, c)) (.iface 87 (.pointer (some ⟨fb, 0, none⟩))) W hW ⟨fb, rfl, trivial, h0, h1⟩)
        have HT := Lib.hid (And.intro t1 (And.intro t2 (And.intro x1 (And.intro hp (And.intro hg2' x0)))))
        clear t1 t2 t3 t4 x1 hg2' r2 r4 q4 e0 e1 ef hp
        go_region_law (first
          | ((try go_simp)
             go_at_call 51
             refine (wrap_any _ _ _).mono ?_
             rintro e W4 ⟨rfl, hW4⟩
             have HE := Lib.hid hW4
             clear hW4)
          | ((try go_simp)
             go_at_call 35
             refine (HC.out _ ?_ ?_ ?_).mono ?_
             · exact HT.out.2.2.2.2.1
             · exact HT.out.2.2.2.2.2
             · exact HT.out.2.2.1
             rintro e W3 ⟨rfl, hb3⟩
             replace hb3 : Below W2.heap.size W2 W3 := ⟨hb3.os, hb3.tape, hb3.output, hb3.size, hb3.block⟩
             have x3 := (hb3.cell (p := ⟨fb, 0, none⟩) hfl2).trans x0
             have HB3 := Lib.hid hb3
             clear hb3))
        all_goals
          go_wp2
          go_ret2
          have hres := HRES.out
          subst hres
          have hb4 : Below W3.heap.size W3 W4 := by rw [HE.out]; exact (Below.refl _ W3).alloc (Nat.le_refl _) _
          have hx4 : W4.heap[W3.heap.size]? = some (.cells #[.int .i64 p, .iface 22 (.int .i64 c)] 102 (0, 0)) := by rw [HE.out]; exact World.alloc_heap_new _ _
          have hb3s := HB3.out.size
          have s3 := HT.out.1.below HB3.out hB2'
          have s4 := s3.below hb4 (Nat.le_trans hB2' hb3s)
          have hnf : NewS w W4 rb fb := ⟨(KeepS.of_below s3.2.2.2.lt hb4 fb (KeepS.of_below HT.out.1.2.2.2.lt HB3.out fb HT.out.2.1.1).2).2, HT.out.2.1.2⟩
          obtain ⟨h1, h2, ⟨vs2, h3, h4⟩, h5⟩ := s4
          refine ⟨_, _, vs2, rfl, h1, h2, h3, h4, fb, ?_, h5, hnf, ?_⟩
          · refine ⟨W3.heap.size, rfl, NewS.fresh s3.2.2.2 hb4 (Nat.le_refl _) (lt_of_heap hx4) (Nat.le_trans hw2' hb3s), ?_, ?_⟩
            · rw [HT.out.2.2.2.1]; exact cell_row (cs := [_, _]) (j := 0) hx4 rfl
            · exact cell_row (cs := [_, _]) (j := 1) hx4 rfl
          · rw [HT.out.2.2.2.1]
            exact (hb4.cell (p := ⟨fb, 0, none⟩) (Nat.lt_of_lt_of_le hfl2 hb3s)).trans x3
      | got g m' =>
        rw [hrec] at hmc
        obtain ⟨hgx, rfl, rfl⟩ := hmc
        have hgm := recR_got hrec
        have hKN := feedK_next hfK hrec
        have hm0 : ¬ ((m' : Nat) : Int) = 0 := by omega
        obtain ⟨g0, off, cap, hA, _, _, _, hk5, hk6, _⟩ | ⟨_, hz⟩ : (∃ g0 off cap, (Value.slice A' l'.length k') = .slice (some ⟨g0, off, none⟩) l'.length cap ∧ B ≤ g0 ∧ g0 ≠ rb ∧ g0 < wr.heap.size ∧ l'.length ≤ cap ∧ cap ≤ maxLen ∧ True) ∨ (True ∧ l' = []) := by
          rcases HMM.out.2.1 with ⟨_, h⟩ | ⟨g0, off, cap, h, h1, h2, h3, h4, h5, _⟩
          · exact .inr ⟨trivial, h⟩
          · exact .inl ⟨g0, off, cap, h, h1, h2, h3, h4, h5, trivial⟩
        · simp only [Value.slice.injEq, true_and] at hA
          obtain ⟨rfl, rfl⟩ := hA
          have hrc := (HLC.out.1.block _ hrw).trans HMM.out.1
          have hLc := Lib.hid (HL.out.below HLC.out.1)
          have hsv := World.ownsRow.lt HMM.out.2.2.2.1
          have hr2 := HL.out.rlt
          have hrs : u6.ownBlock ≠ some rb := fun e => by have := (hsv rb e).1; omega
          have y0 := cell_row (cs := [_, _, _, _]) (j := 0) HLC.out.2 rfl
          have y1 := cell_row (cs := [_, _, _, _]) (j := 1) HLC.out.2 rfl
          have y2 := cell_row (cs := [_, _, _, _]) (j := 2) HLC.out.2 rfl
          have y3 := cell_row (cs := [_, _, _, _]) (j := 3) HLC.out.2 rfl
          obtain ⟨w5, hw5⟩ : ∃ w5, w5 = wc.alloc (.cells #[.int .i64 ki, .slice B1 n1 d1, .slice B2 n2 d2, .slice B3 n3 d3] 51) := ⟨_, rfl⟩
          have hal : Below wc.heap.size wc w5 := by rw [hw5]; exact (Below.refl _ wc).alloc (Nat.le_refl _) _
          have hx5 : w5.heap[wc.heap.size]? = some (.cells #[.int .i64 ki, .slice B1 n1 d1, .slice B2 n2 d2, .slice B3 n3 d3] 51 (0, 0)) := by rw [hw5]; exact World.alloc_heap_new _ _
          have HY : Hid (∀ j u, [.int .i64 ki, .slice B1 n1 d1, .slice B2 n2 d2, .slice B3 n3 d3][j]? = some u → w5.cell? ⟨wc.heap.size, j, none⟩ = some u) := Lib.hid fun j u hj => cell_row hx5 hj
          have HV := Lib.hid (ownsRow_below (ownsRow_below HMM.out.2.2.2.1 HLC.out.1) hal)
          have hBs : w2.heap.size ≤ w5.heap.size := Nat.le_trans (Nat.le_trans hszw hszc) hal.size
          have hr5 := (hal.block _ (by omega)).trans hrc
          have HAL := Lib.hid hal
          have HR5 := Lib.hid (And.intro hr5 hrc)
          have HGX := Lib.hid hgx
          have HKN := Lib.hid hKN
          have hacl : acc.length ≤ 1073741824 := by omega
          clear hfK hKN hdone hgx hx5 hal hr5 hrc
          go_upto_region 13 with (first
            | (refine (list_appendG rfl (.tmp 74) (.tmp 76) rfl u6 rfl rfl (hw5 ▸ HV.out) (hw5 ▸ HY.out) (by simp [Value.oneCell']) (by omega) (hw5 ▸ hBs) ?_)
               intro g3 cap3 w6 ho3 hgr3 hg3 hlt3
               rw [← hw5] at hgr3 hg3
               have hr6 := (hgr3.block rb (by omega) (fun e => hrs e.symm)).trans HR5.out.1
               have HR3 := Lib.hid (And.intro ho3 (And.intro hgr3 (And.intro hg3 hr6)))
               clear ho3 hgr3 hg3 hlt3 hr6)
            | fail)
          have s1 := cell_row (cs := [_, _, _, _, _]) (j := 1) HR3.out.2.2.2 rfl
          have s2 := cell_row (cs := [_, _, _, _, _]) (j := 2) HR3.out.2.2.2 rfl
          have s3 := cell_row (cs := [_, _, _, _, _]) (j := 3) HR3.out.2.2.2 rfl
          have q1 := frozen_row (cs := [_, _, _, _, _]) HR3.out.2.2.2 1
          have q2 := frozen_row (cs := [_, _, _, _, _]) HR3.out.2.2.2 2
          have q3 := frozen_row (cs := [_, _, _, _, _]) HR3.out.2.2.2 3
          have hmi : ((m' : Nat) : Int) ≤ (l'.length : Int) := by omega
          have hmk : ((m' : Nat) : Int) ≤ (k' : Int) := by omega
          have hwb : IntKind.i64.wrap (begin_ + n + m') = begin_ + n + m' := by rw [IntKind.wrap_i64]; omega
          have hwc : IntKind.i64.wrap (count + acc.length + 1) = count + acc.length + 1 := by rw [IntKind.wrap_i64]; omega
          clear hw5
          have hwc' : WaitS B rb wc (.slice (some ⟨g0, off, none⟩) l'.length k') l' := HMM.out.2.1.keep hszc fun g hg => HLC.out.1.block g (HMM.out.2.1.own g hg).2.2
          have HNX := Lib.hid (fun (AA : Option Addr) (kk : Nat) (hAA : (if k' = m' then some ⟨g0, off, none⟩ else some ⟨g0, off + m', none⟩) = AA) (hkk : k' - m' = kk) (ho : (Value.slice AA (l'.length - m') kk).ownBlock = (Value.slice (some ⟨g0, off, none⟩) l'.length k').ownBlock) (W4 : World) hW4 =>
            LoopS.next (m := m') (W4 := W4) (wv' := .slice AA (l'.length - m') kk) hLc.out HR5.out.2 hwc' HMM.out.2.2.1 (HMM.out.2.2.2.2.keeps (below_keeps HLC.out.1 _)) (HGX.out.mono fun b _ hb => ⟨by omega, fun e => by have := (hsv b e).2; omega⟩)
              (fun b hb v hv e => by
                have h1 := (HMM.out.2.2.2.2.1.lines b hb).2
                obtain ⟨_, a1, y1, y2, y3, ps, hcs, hy, _⟩ := HGX.out
                rw [hcs] at hv
                cases hv
                have h2 : wr.heap.size ≤ b := hy.2 b e
                omega)
              (fun k e => ⟨(hsv k e).1, by have := (hsv k e).2; omega⟩) HAL.out HR3.out.1 HR3.out.2.1 HR3.out.2.2.1 ho
              (fun V hV hk => by have h := (hwc'.keep hV hk).drop m' hgm.2; rw [hAA, hkk] at h; exact h) hW4)
          have hlen0 := HL.out.len
          by_cases hkm : k' = m'
          · have hif : (if k' = m' then some (⟨g0, off, none⟩ : Addr) else some ⟨g0, off + m', none⟩) = some ⟨g0, off, none⟩ := if_pos hkm
            have HN2 := Lib.hid (HNX.out _ 0 hif (by omega) rfl)
            clear HNX hif hwc'
            go_wp2
            go_roundw
            · refine ⟨acc ++ [g], n + m', f', l'.drop m', Lib.hid (HN2.out _ rfl), HKN, ?_, ?_, ?_⟩
              · rw [List.length_drop]; omega
              · rw [List.length_drop]; omega
              · rw [List.length_append]; simp only [List.length_cons, List.length_nil]; omega
            · rw [(HN2.out _ rfl).len, hlen0, List.length_drop]; omega
          · have hif : (if k' = m' then some (⟨g0, off, none⟩ : Addr) else some ⟨g0, off + m', none⟩) = some ⟨g0, off + m', none⟩ := if_neg hkm
            have HN2 := Lib.hid (HNX.out _ (k' - m') hif rfl rfl)
            clear HNX hif hwc'
            go_wp2
            go_roundw
            · refine ⟨acc ++ [g], n + m', f', l'.drop m', Lib.hid (HN2.out _ rfl), HKN, ?_, ?_, ?_⟩
              · rw [List.length_drop]; omega
              · rw [List.length_drop]; omega
              · rw [List.length_append]; simp only [List.length_cons, List.length_nil]; omega
            · rw [(HN2.out _ rfl).len, hlen0, List.length_drop]; omega
        · subst hz
          simp at hgm
          omega
end Go.Proofs.YtlffgepnhhnadaaDoor.Pl
