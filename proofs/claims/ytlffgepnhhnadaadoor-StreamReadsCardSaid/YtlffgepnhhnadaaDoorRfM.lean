/- The document's Feed, walked. -/
import Derived.Test.YtlffgepnhhnadaaDoorRfK
namespace Go.Proofs.YtlffgepnhhnadaaDoor.Pl
open Go.RowKit

theorem KeepS.keeps {rb : Nat} {w w' : World} (h : KeepS rb w w') : Keeps (AptS w rb) w w' := fun b _ hb ho _ => (h b hb).1.trans ho
set_option maxRecDepth 100000 in
set_option maxHeartbeats 4000000 in
theorem RFeed_any {B sb next count : Nat} {pv : Value} {depth : Int} {all m : List UInt8} (w : World) (hs : IsRf B w sb depth all next count (-1)) (hm : Bytes (AptS w sb) w pv m) (hn : next ≤ all.length) (hl : all.length + m.length ≤ 1073741824) (hcn : count ≤ 1073741824) (hB : B ≤ w.heap.size) :
    Calls Tryd.prog 45 #[.pointer (some ⟨sb, 0, none⟩), pv] w (RFeedPost B w sb depth (all ++ m) next count (feed depth ((all ++ m).drop next))) := by
  have hrl := hs.lt
  have hbase := hs.base
  obtain ⟨bw, hblk, _⟩ := hs.mem
  have c4 := cell_row (cs := [_, _, _, _, _]) (j := 4) hblk rfl
  obtain ⟨r, hr⟩ : ∃ r, feed depth ((all ++ m).drop next) = r := ⟨_, rfl⟩
  have HRR := Lib.hid hr
  rw [hr]
  obtain ⟨A, c, rfl, hc, hl2, hrow⟩ := hm
  have HM := Lib.hid hrow
  have HS := Lib.hid hs
  clear hr hblk hrow hs
  go_enter Tryd.func45, Tryd.ntmps45
  go_wp2_with fail
  clear c4
  go_loopw [7] (fun i W => ∃ k : Nat, k ≤ m.length ∧ i = .int .i64 k ∧ Hid (IsRf B W sb depth (all ++ m.take k) next count (-1) ∧ KeepS sb w W ∧ Below B w W)) (fun i _ => m.length - (intOf i).toNat)
  case atStart => exact ⟨0, Nat.zero_le _, rfl, by simpa using HS.out, fun _ h => ⟨rfl, h⟩, Below.refl _ _⟩
  case round =>
    obtain ⟨k, hk, rfl, hst, hks, hbl⟩ := hrel
    by_cases hkl : k < m.length
    · have hp : m[k]? = some m[k] := List.getElem?_eq_getElem hkl
      obtain ⟨b, o, rfl, _, _, hcell⟩ := (HM.out.keeps hks.keeps).at (by intro e; have h := congrArg List.length e; rw [List.length_map] at h; simp only [List.length_nil] at h; omega)
      have cc := hcell k (bv m[k]) (by simp [hp])
      clear hcell
      have HNX := Lib.hid (take_snoc hp)
      obtain ⟨bv1, m1, m2, m3⟩ := hst.mem
      have c1 := cell_row (cs := [_, _, _, _, _]) (j := 1) m1 rfl
      have f1 := frozen_row (cs := [_, _, _, _, _]) m1 1
      have hrw := lt_of_heap m1
      have hBr : B ≤ wr.heap.size := Nat.le_trans hB hbl.size
      generalize m[k] = x at cc HNX
      have hal : Below wr.heap.size wr (wr.drew.alloc (.cells #[.int .u8 x.toNat] 5)) := by
        have h : Below wr.heap.size wr wr.drew := ⟨rfl, rfl, rfl, Nat.le_refl _, fun _ _ => rfl⟩
        exact h.alloc (Nat.le_refl _) _
      have hlk : (all ++ m.take k).length + 1 ≤ 140737488355328 := by rw [List.length_append, List.length_take]; omega
      have hlq : (all ++ m.take k).length + [x].length = all.length + k + 1 := by rw [List.length_append, List.length_take, Nat.min_eq_left (Nat.le_of_lt hkl)]; rfl
      have HV := Lib.hid (And.intro (ownsRow_below m2 hal) (And.intro (one_byte wr.drew x) (And.intro (Nat.le_trans hBr hal.size) (And.intro (Nat.lt_of_lt_of_le hrw hal.size) (And.intro ((hal.frozen (p := ⟨sb, 1, none⟩) hrw).trans f1) ((hal.cell (p := ⟨sb, 1, none⟩) hrw).trans c1))))))
      have HAL := Lib.hid hal
      have HO := Lib.hid (And.intro m1 (And.intro m2 (And.intro m3 (And.intro hks hbl))))
      simp only [bv] at cc
      clear hal m1 m2 hst hks hbl hp
      go_wp2
      go_region_law (first
        | (refine step_append (m := [x]) rfl (.tmp 33) (.tmp 38) rfl bv1 _ (by rfl) (by rfl) HV.out.1 HV.out.2.1 (by simp) hlk HV.out.2.2.1 ?_
           intro g3 cap3 w3 ho3 hgr3 hg3 hlt3
           have hf3 : w3.frozen? ⟨sb, 1, none⟩ = false := by rw [World.frozen?_of_block (w := _) (hgr3.block sb HV.out.2.2.2.1 (fun e => m3 e.symm))]; exact HV.out.2.2.2.2.1
           have hq3 : w3.cell? ⟨sb, 1, none⟩ = some bv1 := by rw [World.cell?_of_block (w := _) (hgr3.block sb HV.out.2.2.2.1 (fun e => m3 e.symm))]; exact HV.out.2.2.2.2.2
           have HR3 := Lib.hid (And.intro ho3 (And.intro hgr3 (And.intro hg3 hlt3)))
           clear ho3 hgr3 hg3 hlt3))
      all_goals
        have hG0 := IsRf.grow hbase hBr HO.out.1 HO.out.2.1 HO.out.2.2.1 HAL.out HR3.out.1 HR3.out.2.1 HR3.out.2.2.1
        rw [hlq] at hG0
        have HG := Lib.hid hG0
        clear hG0
        go_wp2
        go_roundw
        · refine ⟨k + 1, hkl, by simp, ?_, fun b hb => ?_, HO.out.2.2.2.2.trans HG.out.2.2⟩
          · rw [HNX.out, ← List.append_assoc]; exact HG.out.1
          · obtain ⟨t1, t2⟩ := HO.out.2.2.2.1 b hb
            exact ⟨(HG.out.2.1 b t2).1.trans t1, (HG.out.2.1 b t2).2⟩
        · simp [intOf]; omega
    · have hke : k = m.length := by omega
      subst hke
      rw [List.take_length] at hst
      have HST := Lib.hid (And.intro hst (And.intro hks hbl))
      clear hst hks hbl
      obtain ⟨bw1, m1, m2, m3⟩ := HST.out.1.mem
      have hll : (all ++ m).length = all.length + m.length := List.length_append
      have HLP := Lib.hid (LoopF.mk (B := B) (w1 := wr) (sb := sb) (bv := bw1) (all := all ++ m) (depth := depth) (next := next) (count := count) (acc := []) (n := 0) (sv := .slice none 0 0) (vs := []) (W := wr) ⟨rfl, rfl, rfl, Nat.le_refl _, fun _ _ _ => rfl⟩ hbase (lt_of_heap m1) (by simpa using m1) m2 m3 ⟨by simp, .inl ⟨rfl, rfl⟩⟩ (by simp [IsGs]))
      have HBC : Hid ((∀ v, wr.cell? ⟨sb, 1, none⟩ = some v → v = bw1) ∧ ∃ v, wr.cell? ⟨sb, 1, none⟩ = some v) := Lib.hid (by simp [World.cell?, m1])
      have hBr : B ≤ wr.heap.size := Nat.le_trans hB HST.out.2.2.size
      have hdl : ((all ++ m).drop next).length = (all ++ m).length - next := List.length_drop
      obtain ⟨w1, hw1⟩ : ∃ w1, w1 = wr := ⟨_, rfl⟩
      rw [← hw1] at HLP HBC hBr
      have HKB := Lib.hid (And.intro HST.out.2.1 HST.out.2.2)
      rw [← hw1] at HKB
      clear m1 m2 m3 HST
      go_wp2_with fail
      rw [← hw1]
      clear hw1
      go_loopw [8] (fun x W => ∃ acc n f vs, Hid (LoopF B w1 sb bw1 (all ++ m) depth next count acc n x vs W) ∧ Hid (feedK depth r acc n f ((all ++ m).drop (next + n))) ∧ (all ++ m).length - (next + n) < f ∧ next + n ≤ (all ++ m).length ∧ acc.length ≤ n) (fun _ W => (all ++ m).length - nextAt W sb)
      case atStart =>
        refine ⟨[], 0, ((all ++ m).drop next).length + 1, [], HLP.out, ?_, by omega, by omega, by simp⟩
        show feedK _ _ _ _ _ _
        unfold feedK
        rw [← HRR.out]
        simp [feed]
      case round =>
        obtain ⟨acc, n, f, vs, HL, HK, hf, hnl, han⟩ := hrel
        have m1 := HL.out.mem
        have c0 := cell_row (cs := [_, _, _, _, _]) (j := 0) m1 rfl
        have c1 := cell_row (cs := [_, _, _, _, _]) (j := 1) m1 rfl
        have c2 := cell_row (cs := [_, _, _, _, _]) (j := 2) m1 rfl
        have hrw := lt_of_heap m1
        have hbuf := (HL.out.buf).bytes (by omega)
        have HREC := Lib.hid (fun W (hb : Bytes (fun b => B ≤ b) W bw1 (all ++ m)) => rrec_any (next + n) depth W hb hnl (by omega))
        obtain ⟨wa, hwa⟩ : ∃ wa, wa = wr.alloc (.cells #[.int .i64 0, .slice none 0 0, .slice none 0 0, .slice none 0 0] 51) := ⟨_, rfl⟩
        have hba : Below wr.heap.size wr wa := by rw [hwa]; exact (Below.refl _ wr).alloc (Nat.le_refl _) _
        have hxa : wa.heap[wr.heap.size]? = some (.cells #[.int .i64 0, .slice none 0 0, .slice none 0 0, .slice none 0 0] 51 (0, 0)) := by rw [hwa]; exact World.alloc_heap_new _ _
        have HWA := Lib.hid (And.intro (hbuf.keeps (below_keeps hba _)) hxa)
        have HWB := Lib.hid hbuf
        have ca0 := (hba.cell (p := ⟨sb, 0, none⟩) hrw).trans c0
        have ca1 := (hba.cell (p := ⟨sb, 1, none⟩) hrw).trans c1
        have ca2 := (hba.cell (p := ⟨sb, 2, none⟩) hrw).trans c2
        rw [hwa] at ca0 ca1 ca2 HWA
        clear m1 hbuf hba hxa
        go_upto_region 8 with (fail)
        go_cut [9, 10, 11, 12, 13] (fun x9 x10 x11 x12 x13 W => RRecV wr (recR ((all ++ m).drop (next + n)) depth) (next + n) x9 x10 x11 x12 x13 W)
        case first =>
          clear hwa
          go_region_law (first
            | ((try go_simp)
               go_at_call 61
               refine (HREC.out _ ?_).mono ?_
               · exact HWA.out.1
               intro e w3 hrp
               obtain ⟨ki, B1, n1, d1, B2, n2, d2, B3, n3, d3, nx, wt, cc, aa, rfl, hb3, hm3⟩ := hrp
               have hx3 := (hb3.block _ (lt_of_heap HWA.out.2)).trans HWA.out.2
               have z0 := cell_row (cs := [_, _, _, _]) (j := 0) hx3 rfl
               have z1 := cell_row (cs := [_, _, _, _]) (j := 1) hx3 rfl
               have z2 := cell_row (cs := [_, _, _, _]) (j := 2) hx3 rfl
               have z3 := cell_row (cs := [_, _, _, _]) (j := 3) hx3 rfl
               have f0 := frozen_row (cs := [_, _, _, _]) hx3 0
               have f1 := frozen_row (cs := [_, _, _, _]) hx3 1
               have f2 := frozen_row (cs := [_, _, _, _]) hx3 2
               have f3 := frozen_row (cs := [_, _, _, _]) hx3 3
               have HV : Hid (∀ W, W = (((w3.setCell ⟨wr.heap.size, 0, none⟩ (.int .i64 ki)).setCell ⟨wr.heap.size, 1, none⟩ (.slice B1 n1 d1)).setCell ⟨wr.heap.size, 2, none⟩ (.slice B2 n2 d2)).setCell ⟨wr.heap.size, 3, none⟩ (.slice B3 n3 d3) → RRecV wr (recR ((all ++ m).drop (next + n)) depth) (next + n) (.pointer (some ⟨wr.heap.size, 0, none⟩)) (.int .i64 nx) (.bool wt) (.int .i64 cc) (.int .i64 aa) W) := Lib.hid fun W hW => rrecV_first rfl (w3 := w3) (by exact ⟨hb3.os, hb3.tape, hb3.output, hb3.size, hb3.block⟩) hm3 hW
               clear hm3 hb3 hx3)
            | ((try go_simp)
               go_at_call 61
               refine (HREC.out _ ?_).mono ?_
               · exact HWB.out
               intro e w3 hrp
               obtain ⟨ki, B1, n1, d1, B2, n2, d2, B3, n3, d3, nx, wt, cc, aa, rfl, hb3, hm3⟩ := hrp
               replace hb3 : Below wr.heap.size wr w3 := by first | exact hb3 | exact below_drewB hb3 | exact below_drewB1 hb3
               have HV : Hid (RRecV wr (recR ((all ++ m).drop (next + n)) depth) (next + n) (.pointer (some ⟨w3.heap.size, 0, none⟩)) (.int .i64 nx) (.bool wt) (.int .i64 cc) (.int .i64 aa) (w3.alloc (.cells #[.int .i64 ki, .slice B1 n1 d1, .slice B2 n2 d2, .slice B3 n3 d3] 51))) := Lib.hid (rrecV_after hb3 hm3)
               clear hm3 hb3))
          all_goals
            go_wp2_with fail
            go_meet
            case rel => first | exact HV.out _ rfl | exact HV.out
        case rest =>
          obtain ⟨gb, ki, B1, n1, d1, B2, n2, d2, B3, n3, d3, nx, wt, cc, aa, rfl, rfl, rfl, rfl, rfl, hbc, hgc, hmc⟩ := hcut
          have HLC := Lib.hid (And.intro hbc hgc)
          have hszc := hbc.size
          have hszw := HL.out.grown.size
          have hLc := HL.out.below hbc
          have hrc := hLc.mem
          have hfK := HK.out
          obtain ⟨f', rfl⟩ : ∃ f', f = f' + 1 := ⟨f - 1, by omega⟩
          clear HREC HWB HWA ca0 ca1 ca2 c0 c1 c2 hwa hbc hgc
          cases hrec : recR ((all ++ m).drop (next + n)) depth with
          | wait =>
            rw [hrec] at hmc
            obtain ⟨rfl, rfl, rfl⟩ := hmc
            have hres : r = (acc, n, (all ++ m).drop (next + n), none) := by unfold feedK at hfK; rw [hfK]; simp [feedR, hrec]
            have HF := Lib.hid (LoopF.done (w := w) (W2 := wc) (c := 0) (a := -1) (bad := -1) (er := none) (rest := (all ++ m).drop (next + n)) hLc HKB.out.2 HKB.out.1 HBC.out.1 (by omega) hrc ⟨rfl, rfl, rfl, Nat.le_refl _, fun _ _ _ => rfl⟩ ⟨rfl, rfl⟩ HBC.out.2)
            clear hfK hLc hrc
            go_wp2
            go_ret3
            rw [hres]
            exact HF.out
          | bad a c =>
            rw [hrec] at hmc
            obtain ⟨rfl, rfl, hcz, rfl⟩ := hmc
            have hres : r = (acc, n, (all ++ m).drop (next + n), some (a, cc)) := by unfold feedK at hfK; rw [hfK]; simp [feedR, hrec]
            have hst := heap_store (cs := [.int .i64 depth, bw1, .int .i64 ((next + n : Nat) : Int), .int .i64 ((count + acc.length : Nat) : Int), .int .i64 (-1)]) hrc (j := 4) (.int .i64 (((next + n : Nat) : Int) + a))
            have HF := Lib.hid (LoopF.done (w := w) (W2 := wc.setCell ⟨sb, 4, none⟩ (.int .i64 (((next + n : Nat) : Int) + a))) (c := cc) (a := ((next + n : Nat) : Int) + a) (bad := ((next + n : Nat) : Int) + a) (er := some (a, cc)) (rest := (all ++ m).drop (next + n)) hLc HKB.out.2 HKB.out.1 HBC.out.1 (by omega) hst (grownBy_set wc ⟨sb, 4, none⟩ _) ⟨rfl, hcz, rfl, rfl⟩ HBC.out.2)
            have r4 := cell_row (cs := [_, _, _, _, _]) (j := 4) hrc rfl
            have q4 := frozen_row (cs := [_, _, _, _, _]) hrc 4
            have hzb : (cc != 0) = true := by simpa using hcz
            clear hfK hLc hrc hst
            go_wp2
            go_ret3
            rw [hres]
            exact HF.out
          | got g m' =>
            rw [hrec] at hmc
            obtain ⟨hgx, hnx, rfl, rfl⟩ := hmc
            have hgm := recR_got hrec
            have hKN := feedK_next hfK hrec
            rw [List.drop_drop, Nat.add_assoc] at hKN
            have hsv := World.ownsRow.lt hLc.out
            have hrs : u8.ownBlock ≠ some sb := fun e => by have := (hsv sb e).1; have := hLc.rlt; omega
            have y0 := cell_row (cs := [_, _, _, _]) (j := 0) HLC.out.2 rfl
            have y1 := cell_row (cs := [_, _, _, _]) (j := 1) HLC.out.2 rfl
            have y2 := cell_row (cs := [_, _, _, _]) (j := 2) HLC.out.2 rfl
            have y3 := cell_row (cs := [_, _, _, _]) (j := 3) HLC.out.2 rfl
            obtain ⟨w5, hw5⟩ : ∃ w5, w5 = wc.alloc (.cells #[.int .i64 ki, .slice B1 n1 d1, .slice B2 n2 d2, .slice B3 n3 d3] 51) := ⟨_, rfl⟩
            have hal : Below wc.heap.size wc w5 := by rw [hw5]; exact (Below.refl _ wc).alloc (Nat.le_refl _) _
            have hx5 : w5.heap[wc.heap.size]? = some (.cells #[.int .i64 ki, .slice B1 n1 d1, .slice B2 n2 d2, .slice B3 n3 d3] 51 (0, 0)) := by rw [hw5]; exact World.alloc_heap_new _ _
            have HY : Hid (∀ j u, [.int .i64 ki, .slice B1 n1 d1, .slice B2 n2 d2, .slice B3 n3 d3][j]? = some u → w5.cell? ⟨wc.heap.size, j, none⟩ = some u) := Lib.hid fun j u hj => cell_row hx5 hj
            have HV := Lib.hid (ownsRow_below hLc.out hal)
            have hBs : w1.heap.size ≤ w5.heap.size := Nat.le_trans (Nat.le_trans hszw hszc) hal.size
            have hrlc := lt_of_heap hrc
            have hr5 := (hal.block _ hrlc).trans hrc
            have HAL := Lib.hid hal
            have HR5 := Lib.hid hr5
            have HLc := Lib.hid hLc
            have hIX : IsG (fun b => w1.heap.size ≤ b ∧ u8.ownBlock ≠ some b) wc g [.int .i64 ki, .slice B1 n1 d1, .slice B2 n2 d2, .slice B3 n3 d3] := hgx.mono fun b _ hb => ⟨by omega, fun e => by have := (World.ownsRow.lt HL.out.out b e).2; omega⟩
            have HIX := Lib.hid hIX
            have HKN := Lib.hid hKN
            have hacl : acc.length ≤ 1073741824 := by omega
            have hnx2 : ((next + (n + m') : Nat) : Int) = nx := by rw [hnx, Nat.add_assoc]
            have hcb : ((count + acc.length : Nat) : Int) ≤ 4294967296 := by omega
            have hcn2 : ((count + (acc.length + 1) : Nat) : Int) = ((count + acc.length : Nat) : Int) + 1 := by omega
            have HNUM := Lib.hid (And.intro hnx2 hcn2)
            have hgml : m' ≤ (all ++ m).length - (next + n) := by rw [← List.length_drop]; exact hgm.2
            clear hfK hKN hgx hx5 hal hr5 hrc hnx hnx2 hcn2 hIX hLc
            generalize hcnn : count + acc.length = cn at *
            go_upto_region 15 with (first
              | (refine (list_appendG rfl (.tmp 72) (.tmp 74) rfl u8 rfl rfl (hw5 ▸ HV.out) (hw5 ▸ HY.out) (by simp [Value.oneCell']) (by omega) (hw5 ▸ hBs) ?_)
                 intro g3 cap3 w6 ho3 hgr3 hg3 hlt3
                 rw [← hw5] at hgr3 hg3
                 have hr6 := (hgr3.block sb (Nat.lt_of_lt_of_le hrlc HAL.out.size) (fun e => hrs e.symm)).trans HR5.out
                 have HR3 := Lib.hid (And.intro ho3 (And.intro hgr3 (And.intro hg3 hr6)))
                 clear ho3 hgr3 hg3 hlt3 hr6)
              | fail)
            have s2 := cell_row (cs := [_, _, _, _, _]) (j := 2) HR3.out.2.2.2 rfl
            have s3 := cell_row (cs := [_, _, _, _, _]) (j := 3) HR3.out.2.2.2 rfl
            have q2 := frozen_row (cs := [_, _, _, _, _]) HR3.out.2.2.2 2
            have q3 := frozen_row (cs := [_, _, _, _, _]) HR3.out.2.2.2 3
            clear hw5
            have HN2 := Lib.hid (fun W4 hW4 => LoopF.next' (m := m') (W4 := W4) HLc.out HIX.out HAL.out HR3.out.1 HR3.out.2.1 HR3.out.2.2.1 hW4)
            have hlen0 := HL.out.nextEq
            go_wp2
            have hfin := HN2.out _ (show _ = _ by rw [HNUM.out.1, HNUM.out.2])
            go_roundw
            · refine ⟨acc ++ [g], n + m', f', _, Lib.hid hfin, HKN, by omega, by omega, ?_⟩
              rw [List.length_append]; simp only [List.length_cons, List.length_nil]; omega
            · rw [hfin.nextEq, hlen0]; omega
end Go.Proofs.YtlffgepnhhnadaaDoor.Pl
