/- The document's pen: a polygon, walked. -/
import Derived.Test.YtlffgepnhhnadaaGreatDoorMtC
import Derived.Deep.RegionHeld3
namespace Go.Proofs.YtlffgepnhhnadaaGreatDoor.Pl
open Go.RowKit

/-- a load by another name: the region's tactic takes it not for one that must stand in what is held -/
abbrev ldP (t : TypeId) (a : Operand) : Op := Op.load t a
set_option maxRecDepth 100000 in
set_option maxHeartbeats 40000000 in
theorem pen_rg (d : Nat) (g : G) (hkind : g.kind = 3) : PenAt (d + 1) g := by
  intro B pb n v l lt cs w hd hp hI hkd hl hn hB
  obtain ⟨kd, ln, rg, pt⟩ := g
  have hdp : depths pt ≤ d := by simp only [depth] at hd; omega
  have henc := encG_eq [lt] kd ln rg pt n lt (ordB_one lt n)
  simp only [KindG] at hkd
  obtain ⟨hk0, hk1, hk2, hk3, hk4, hk5⟩ := hkd
  obtain ⟨kn, rfl⟩ : ∃ kn : Nat, kd = kn := ⟨kd.toNat, by omega⟩
  simp only [IsG] at hI
  obtain ⟨v1, v2, v3, rfl, hln, ⟨vr, hrs, hre⟩, vp, hps, hpt⟩ := hI
  obtain ⟨w1, hw1⟩ : ∃ w1, w1 = w.alloc (.cells #[.int .i64 (kn : Int), v1, v2, v3] 27) := ⟨_, rfl⟩
  have hb1 : Below w.heap.size w w1 := by subst hw1; exact (Below.refl _ w).alloc (Nat.le_refl _) _
  have hx1 : w1.heap[w.heap.size]? = some (.cells #[.int .i64 (kn : Int), v1, v2, v3] 27 (0, 0)) := by subst hw1; exact World.alloc_heap_new _ _
  have hp1 := hp.below hb1
  have hk01 : KeepP pb w w1 := .of_below hp.pblt hb1
  have ha1 := hp.apt hb1 w.heap.size (Nat.le_refl _) (lt_of_heap hx1)
  have HOR := Lib.hid (porder_any w1 hp1 (by omega))
  have HA := Lib.hid (And.intro ha1 (And.intro hx1 (And.intro hk01 (hb1.mono hB))))
  have HI := Lib.hid (And.intro hln (And.intro hrs (And.intro hre (And.intro hps hpt))))
  have HEN := Lib.hid henc
  have hB1 : B ≤ w1.heap.size := Nat.le_trans hB hb1.size
  have hl5 : l.length + (5 + (encBody [lt] (kn : Int) ln rg pt n lt).length) ≤ 70368744177664 := by rw [henc] at hl; simp only [List.length_cons, List.length_append, encB_length] at hl; omega
  -- the box's cells, in every world that the pen leaves
  have HBX : Hid (∀ W : World, W.heap[w.heap.size]? = w1.heap[w.heap.size]? → W.cell? ⟨w.heap.size, 0, none⟩ = some (.int .i64 (kn : Int)) ∧ W.cell? ⟨w.heap.size, 1, none⟩ = some v1 ∧ W.cell? ⟨w.heap.size, 2, none⟩ = some v2 ∧ W.cell? ⟨w.heap.size, 3, none⟩ = some v3) := Lib.hid fun W hW => by
    have k1 := hW.trans hx1
    exact ⟨cell_row (cs := [_, _, _, _]) (j := 0) k1 rfl, cell_row (cs := [_, _, _, _]) (j := 1) k1 rfl, cell_row (cs := [_, _, _, _]) (j := 2) k1 rfl, cell_row (cs := [_, _, _, _]) (j := 3) k1 rfl⟩
  obtain ⟨_, A1, m1, rfl, _, _, _⟩ := hln
  obtain ⟨A2, m2, rfl, _, hrl, _⟩ := hrs
  obtain ⟨A3, m3, rfl, _, hpl, _⟩ := hps
  clear hp hp1 ha1 hx1 hk01 hb1 hre hpt henc hl
  go_enter Tryz.func55, Tryz.ntmps55
  go_upto_region 1 with (fail)
  rw [← hw1]
  clear hw1
  go_wp2_with fail
  refine HOR.out.mono ?_
  rintro e w2 ⟨rfl, hp2, hb2, hk2⟩
  have hs2 : PnS B w1 pb lt (n + 1) l w2 := ⟨v, hp2, hk2, hb2⟩
  have HS2 := Lib.hid (And.intro hs2 (And.intro hp2 (And.intro hk2 hb2)))
  have hB2 : B ≤ w2.heap.size := Nat.le_trans hB1 hb2.size
  clear hs2 hp2 hb2 hk2 HOR
  go_upto_if 9 with (fail)
  go_cut [] (fun W => PnS B w1 pb lt (n + 1) (l ++ [if lt then 1 else 0]) W)
  case first =>
    have c0 := HS2.out.2.1.c0
    have f0 := HS2.out.2.1.fz 0
    have hal : Below w2.heap.size w2 (w2.alloc (.cells #[bv (if lt then 1 else 0)] 5)) := (Below.refl _ w2).alloc (Nat.le_refl _) _
    have HAL := Lib.hid hal
    have H1 := Lib.hid (one_byte w2 (if lt then 1 else 0))
    have hlp := HS2.out.2.1.pblt
    have hne := HS2.out.2.1.ne
    cases lt with
    | true =>
      have HAL : Hid (Below w2.heap.size w2 (w2.alloc (.cells #[.int .u8 1] 5))) := HAL
      have H1 : Hid (OwnB w2.heap.size (w2.alloc (.cells #[.int .u8 1] 5)) (.slice (some ⟨w2.heap.size, 0, none⟩) 1 1) [1]) := H1
      go_wp2_with (at_builtin; go_must (
        refine (list_append rfl (.tmp 14) (.tmp 15) rfl v _ (by rfl) (by rfl) (ownsRow_below HS2.out.2.1.own HAL.out) H1.out (by simp) (by simp only [List.length_cons, List.length_nil]; omega) (Nat.le_trans hB2 HAL.out.size) ?_)
        intro g3 cap3 w4 ho3 hgr3 hg3 hlt3
        have hq3 : w4.cell? ⟨pb, 0, none⟩ = some v := (World.cell?_of_block (a := ⟨pb, 0, none⟩) (hgr3.block pb (Nat.lt_of_lt_of_le hlp HAL.out.size) (fun e => hne e.symm))).trans ((HAL.out.cell (p := ⟨pb, 0, none⟩) hlp).trans c0)
        have hf3 : w4.frozen? ⟨pb, 0, none⟩ = false := (World.frozen?_of_block (a := ⟨pb, 0, none⟩) (hgr3.block pb (Nat.lt_of_lt_of_le hlp HAL.out.size) (fun e => hne e.symm))).trans ((HAL.out.frozen (p := ⟨pb, 0, none⟩) hlp).trans f0)
        have HR3 := Lib.hid (GrewB.app HAL.out ho3 hgr3 hg3)
        clear ho3 hgr3 hg3 hlt3))
      go_meet
      case rel => exact PnS.step HS2.out.2.1 HS2.out.2.2.1 HS2.out.2.2.2 hB1 HR3.out
    | false =>
      have HAL : Hid (Below w2.heap.size w2 (w2.alloc (.cells #[.int .u8 0] 5))) := HAL
      have H1 : Hid (OwnB w2.heap.size (w2.alloc (.cells #[.int .u8 0] 5)) (.slice (some ⟨w2.heap.size, 0, none⟩) 1 1) [0]) := H1
      go_wp2_with (at_builtin; go_must (
        refine (list_append rfl (.tmp 23) (.tmp 24) rfl v _ (by rfl) (by rfl) (ownsRow_below HS2.out.2.1.own HAL.out) H1.out (by simp) (by simp only [List.length_cons, List.length_nil]; omega) (Nat.le_trans hB2 HAL.out.size) ?_)
        intro g3 cap3 w4 ho3 hgr3 hg3 hlt3
        have hq3 : w4.cell? ⟨pb, 0, none⟩ = some v := (World.cell?_of_block (a := ⟨pb, 0, none⟩) (hgr3.block pb (Nat.lt_of_lt_of_le hlp HAL.out.size) (fun e => hne e.symm))).trans ((HAL.out.cell (p := ⟨pb, 0, none⟩) hlp).trans c0)
        have hf3 : w4.frozen? ⟨pb, 0, none⟩ = false := (World.frozen?_of_block (a := ⟨pb, 0, none⟩) (hgr3.block pb (Nat.lt_of_lt_of_le hlp HAL.out.size) (fun e => hne e.symm))).trans ((HAL.out.frozen (p := ⟨pb, 0, none⟩) hlp).trans f0)
        have HR3 := Lib.hid (GrewB.app HAL.out ho3 hgr3 hg3)
        clear ho3 hgr3 hg3 hlt3))
      go_meet
      case rel => exact PnS.step HS2.out.2.1 HS2.out.2.2.1 HS2.out.2.2.2 hB1 HR3.out
  case rest =>
    obtain ⟨va, hpa, hka, hba⟩ := hcut
    obtain ⟨wa, hwa⟩ : ∃ wa, wa = wc := ⟨_, rfl⟩
    subst hwa
    have HPa := Lib.hid (And.intro hpa (And.intro hka hba))
    have hBa : B ≤ wa.heap.size := Nat.le_trans hB1 hba.size
    clear hpa hka hba
    have hku : IntKind.u64.wrap (kn : Int) = (kn : Int) := by rw [IntKind.wrap_u64]; omega
    have hla : (l ++ [if lt then (1 : UInt8) else 0]).length = l.length + 1 := by simp
    obtain ⟨la, hLA⟩ : ∃ la, l ++ [if lt then (1 : UInt8) else 0] = la := ⟨_, rfl⟩
    rw [hLA] at HPa hla
    go_upto_region 5 with (fail)
    go_cut [] (fun W => PnS B w1 pb lt (n + 1) (la ++ encB 4 kn lt) W)
    case first =>
      have c0 := HPa.out.1.c0
      have f0 := HPa.out.1.fz 0
      obtain ⟨bx0, bx1, bx2, bx3⟩ := HBX.out wa (HPa.out.2.1 _ HA.out.1).1
      have hdr : Below wa.heap.size wa wa.drew := ⟨rfl, rfl, rfl, Nat.le_refl _, fun _ _ => rfl⟩
      have HDR := Lib.hid (ownsRow_below HPa.out.1.own hdr)
      clear hdr
      have HQ := Lib.hid (fun W (h : OwnB B W va (la)) (hs : B ≤ W.heap.size) => put_any kn 4 lt W h (by omega) (by omega) (by omega) hs)
      go_region_law (first
        | ((try go_simp)
           go_at_call 69
           refine (HQ.out _ ?_ ?_).mono ?_
           · first | exact HPa.out.1.own | exact HDR.out
           · exact hBa
           rintro e wm ⟨vm, rfl, hg⟩
           replace hg := by first | exact GrewB.undrew1 hg | exact hg
           obtain ⟨am, nm, km, rfl⟩ := hg.slice
           obtain ⟨hq3, hf3, hk3⟩ := pn_mid HPa.out.1 hg
           have HG := Lib.hid hg
           clear hg))
      all_goals
        go_wp2_with fail
        go_meet
        case rel =>
          have hfin := PnS.step HPa.out.1 HPa.out.2.1 HPa.out.2.2 hB1 HG.out
          simpa only [List.append_assoc] using hfin
    case rest =>
      obtain ⟨vb, hpb, hkb, hbb⟩ := hcut
      obtain ⟨wb, hwb⟩ : ∃ wb, wb = wc := ⟨_, rfl⟩
      subst hwb
      have HPb := Lib.hid (And.intro hpb (And.intro hkb hbb))
      have hBb : B ≤ wb.heap.size := Nat.le_trans hB1 hbb.size
      clear hpb hkb hbb
      obtain ⟨lb, hLB⟩ : ∃ lb, la ++ encB 4 kn lt = lb := ⟨_, rfl⟩
      have hlb : lb.length = l.length + 5 := by rw [← hLB, List.length_append, encB_length]; omega
      rw [hLB] at HPb
      have HFIN : Hid (∀ (W : World) (m : Nat) (l' : List UInt8), PnS B w1 pb lt m l' W → l' = lb ++ encBody [lt] kn ln rg pt n lt → m = n + begunG (.mk kn ln rg pt) → PnS B w pb lt (n + begunG (.mk kn ln rg pt)) (l ++ encG [lt] (.mk kn ln rg pt) n) W) := Lib.hid fun W m l' h hl' hm => by
        subst hm
        obtain ⟨vv, h1, h2, h3⟩ := h
        have e : l ++ encG [lt] (.mk (kn : Int) ln rg pt) n = l' := by
          rw [hl', ← hLB, ← hLA, HEN.out, show ((kn : Int) % 4294967296).toNat = kn by omega]
          simp only [List.append_assoc, List.singleton_append]
          cases lt <;> rfl
        rw [e]
        exact ⟨vv, h1, HA.out.2.2.1.trans h2, HA.out.2.2.2.trans h3⟩
      clear hLA hLB
      obtain ⟨bx0, bx1, bx2, bx3⟩ := HBX.out wb (HPb.out.2.1 _ HA.out.1).1
      have h3 : (kn : Int) = 3 := hkind
      have hbody : encBody [lt] (kn : Int) ln rg pt n lt = encB 4 rg.length lt ++ rg.flatMap (encR lt) := by simp [encBody, h3]
      have hm : begunG (.mk (kn : Int) ln rg pt) = 1 := by simp [begunG, h3]
      rw [hbody, List.length_append, encB_length, encRs_length] at hl5
      rw [hm] at hn
      rw [h3] at bx0
      have HBD := Lib.hid hbody
      clear h3 hbody
      have hlu : IntKind.u64.wrap (rg.length : Int) = (rg.length : Int) := by rw [IntKind.wrap_u64]; omega
      go_upto_region 19 with (fail)
      go_cut [] (fun W => PnS B w1 pb lt (n + 1) (lb ++ encB 4 rg.length lt) W)
      case first =>
        have c0 := HPb.out.1.c0
        have f0 := HPb.out.1.fz 0
        obtain ⟨bx0, bx1, bx2, bx3⟩ := HBX.out wb (HPb.out.2.1 _ HA.out.1).1
        have hdr : Below wb.heap.size wb wb.drew := ⟨rfl, rfl, rfl, Nat.le_refl _, fun _ _ => rfl⟩
        have HDR := Lib.hid (ownsRow_below HPb.out.1.own hdr)
        clear hdr
        have HQ := Lib.hid (fun W (h : OwnB B W vb (lb)) (hs : B ≤ W.heap.size) => put_any rg.length 4 lt W h (by omega) (by omega) (by omega) hs)
        go_region_law (first
          | ((try go_simp)
             go_at_call 69
             refine (HQ.out _ ?_ ?_).mono ?_
             · first | exact HPb.out.1.own | exact HDR.out
             · exact hBb
             rintro e wm ⟨vm, rfl, hg⟩
             replace hg := by first | exact GrewB.undrew1 hg | exact hg
             obtain ⟨am, nm, km, rfl⟩ := hg.slice
             obtain ⟨hq3, hf3, hk3⟩ := pn_mid HPb.out.1 hg
             have HG := Lib.hid hg
             clear hg))
        all_goals
          go_wp2_with fail
          go_meet
          case rel =>
            have hfin := PnS.step HPb.out.1 HPb.out.2.1 HPb.out.2.2 hB1 HG.out
            simpa only [List.append_assoc] using hfin
      case rest =>
        obtain ⟨vd, hpd, hkd, hbd⟩ := hcut
        obtain ⟨wd, hwd⟩ : ∃ wd, wd = wc := ⟨_, rfl⟩
        subst hwd
        have HPd := Lib.hid (And.intro hpd (And.intro hkd hbd))
        have hBd : B ≤ wd.heap.size := Nat.le_trans hB1 hbd.size
        clear hpd hkd hbd
        obtain ⟨ld, hLD⟩ : ∃ ld, lb ++ encB 4 rg.length lt = ld := ⟨_, rfl⟩
        have hld : ld.length = l.length + 9 := by rw [← hLD, List.length_append, encB_length]; omega
        rw [hLD] at HPd
        go_wp2_with fail
        go_loopw [5] (fun i W => ∃ k : Nat, k ≤ rg.length ∧ i = .int .i64 k ∧ Hid (PnS B w1 pb lt (n + 1) (ld ++ (rg.take k).flatMap (encR lt)) W)) (fun i _ => rg.length - (intOf i).toNat)
        case atStart => exact ⟨0, Nat.zero_le _, rfl, Lib.hid ⟨_, by simpa using HPd.out.1, HPd.out.2.1, HPd.out.2.2⟩⟩
        case round =>
          obtain ⟨k, hk, rfl, HR⟩ := hrel
          obtain ⟨vr', hpr, hkr, hbr⟩ := HR.out
          obtain ⟨by0, by1, by2, by3⟩ := HBX.out wr (hkr _ HA.out.1).1
          by_cases hkl : k < rg.length
          · obtain ⟨x, hx⟩ : ∃ x, rg[k]? = some x := ⟨_, List.getElem?_eq_getElem hkl⟩
            obtain ⟨vx, hvx, hpx⟩ := HI.out.2.2.1.at k x hx
            have hxl : x.length < 4294967296 := hk4 x (List.mem_of_getElem? hx)
            have hle := takeR_le lt rg (k + 1)
            have hnx := takeR_next lt hx
            rw [hnx, List.length_append, encR_length] at hle
            obtain ⟨lr, hLR⟩ : ∃ lr, ld ++ (rg.take k).flatMap (encR lt) = lr := ⟨_, rfl⟩
            have hlr : lr.length = ld.length + ((rg.take k).flatMap (encR lt)).length := by rw [← hLR, List.length_append]
            rw [hLR] at hpr
            have hBe : B ≤ wr.heap.size := Nat.le_trans hB1 hbr.size
            have HPe := Lib.hid (And.intro hpr (And.intro hkr hbr))
            have hxu : IntKind.u64.wrap (x.length : Int) = (x.length : Int) := by rw [IntKind.wrap_u64]; omega
            obtain ⟨b2, o2, hb2e, hb2a, _, hcell⟩ := Row.at (Row.pr (Row.pr (sl_row HI.out.2.1) HA.out.2.2.1) hkr) (by rintro rfl; simp at hvx)
            subst hb2e
            have cc := hcell k _ hvx
            have HCC := Lib.hid (And.intro hb2a cc)
            have HPX := Lib.hid ((hpx.pr HA.out.2.2.1).pr hkr)
            obtain ⟨_, A4, m4, rfl, _, _, _⟩ := hpx
            clear hcell hpr hkr hbr hb2a HR
            obtain ⟨we, hwe⟩ : ∃ we, we = wr := ⟨_, rfl⟩
            obtain ⟨ve, hve⟩ : ∃ ve, ve = vr' := ⟨_, rfl⟩
            subst hwe hve
            go_upto_region 23 with (fail)
            have c0 := HPe.out.1.c0
            have f0 := HPe.out.1.fz 0
            obtain ⟨bx0, bx1, bx2, bx3⟩ := HBX.out we (HPe.out.2.1 _ HA.out.1).1
            have hdr : Below we.heap.size we we.drew := ⟨rfl, rfl, rfl, Nat.le_refl _, fun _ _ => rfl⟩
            have HDR := Lib.hid (ownsRow_below HPe.out.1.own hdr)
            clear hdr
            have HQ := Lib.hid (fun W (h : OwnB B W ve (lr)) (hs : B ≤ W.heap.size) => put_any x.length 4 lt W h (by omega) (by omega) (by omega) hs)
            have HQ2 := Lib.hid (fun W u (h : OwnB B W u (lr ++ encB 4 x.length lt)) (hb : ∀ b, Apt we pb b → u.ownBlock ≠ some b) (hp : Pts (Apt we pb) W (Value.slice A4 x.length m4) x) (hs : B ≤ W.heap.size) => putPairs_any lt W h hp hb (by rw [List.length_append, encB_length]; omega) hs)
            have hAX := HPe.out.2.1 _ HA.out.1
            have HSK : Hid (∀ W : World, W.heap[w.heap.size]? = we.heap[w.heap.size]? → W.heap[b2]? = we.heap[b2]? → W.cell? ⟨w.heap.size, 2, none⟩ = some (.slice (some ⟨b2, o2, none⟩) rg.length m2) ∧ W.cell? ⟨b2, o2 + k, none⟩ = some (.slice A4 x.length m4)) := Lib.hid fun W h1 h2 =>
              ⟨(HBX.out W (h1.trans hAX.1)).2.2.1, (World.cell?_of_block (a := ⟨b2, o2 + k, none⟩) h2).trans HCC.out.2⟩
            have HNE : Hid (w.heap.size ≠ pb ∧ b2 ≠ pb) := Lib.hid ⟨hAX.2.2.1, HCC.out.1.2.1⟩
            have hki : (k : Int) < (rg.length : Int) := by omega
            have HAX := Lib.hid hAX.2
            clear bx0 bx1 bx2 bx3 cc by0 by1 by2 by3 hAX
            rw [show Op.load 22 (.tmp 141) = ldP 22 (.tmp 141) from rfl]
            go_region_held3 (fun W => W.cell? ⟨w.heap.size, 2, none⟩ = some (.slice (some ⟨b2, o2, none⟩) rg.length m2) ∧ W.cell? ⟨b2, o2 + k, none⟩ = some (.slice A4 x.length m4))
              (first
                | exact HSK.out _ rfl rfl
                | exact HSK.out _ ((Below.heap_setCell _ _ _ _ HNE.out.1).trans HBN.out.1) ((Below.heap_setCell _ _ _ _ HNE.out.2).trans HBN.out.2)
                | exact HSK.out _ HBN.out.1 HBN.out.2
                | exact HSK.out _ HBM.out.1 HBM.out.2)
              ((first
                | (go_at_call 70
                   refine (HQ2.out _ (.slice am nm km) ?_ HM.out.2.1 ?_ ?_).mono ?_
                   · first | exact HM.out.1.own | exact ownsRow_below HM.out.1.own ⟨rfl, rfl, rfl, Nat.le_refl _, fun _ _ => rfl⟩
                   · exact HM.out.2.2
                   · exact Nat.le_trans hBe HM.out.1.grown.size
                   rintro e wn ⟨vn, rfl, hgn⟩
                   replace hgn := by first | exact GrewB.undrew1 hgn | exact hgn
                   obtain ⟨an, nn, kn', rfl⟩ := hgn.slice
                   have HG := Lib.hid (HM.out.1.trans hgn)
                   obtain ⟨hq4, hf4, hk4⟩ := pn_mid HPe.out.1 HG.out
                   have HBN := Lib.hid (And.intro (hk4 _ HAX.out) (hk4 _ HCC.out.1))
                   clear hgn hk4)
                | (go_at_call 69
                   refine (HQ.out _ ?_ ?_).mono ?_
                   · first | exact HPe.out.1.own | exact HDR.out
                   · exact hBe
                   rintro e wm ⟨vm, rfl, hg⟩
                   replace hg := by first | exact GrewB.undrew1 hg | exact hg
                   obtain ⟨am, nm, km, rfl⟩ := hg.slice
                   obtain ⟨hq3, hf3, hk3⟩ := pn_mid HPe.out.1 hg
                   have hm1 : ∀ b, Apt we pb b → (Value.slice am nm km).ownBlock ≠ some b := fun b hb e => by
                     rcases hg.blk b e with h | h
                     · exact hb.2.2 _ c0 h
                     · have := hb.1; omega
                   have hm2 := Pts.keeps (HPX.out) (fun b _ hb ho _ => (hk3 b hb).trans ho)
                   have HBM := Lib.hid (And.intro (hk3 _ HAX.out) (hk3 _ HCC.out.1))
                   have HM := Lib.hid (And.intro hg (And.intro hm1 hm2))
                   clear hm1 hm2 hg hk3)))
            all_goals
              go_wp2_with fail
              go_roundw
              · have hfin := PnS.step HPe.out.1 HPe.out.2.1 HPe.out.2.2 hB1 HG.out
                refine ⟨k + 1, hkl, by simp, Lib.hid ?_⟩
                rw [hnx, ← List.append_assoc, hLR]
                simpa only [encR, List.append_assoc] using hfin
              · simp [intOf]; omega
          · go_wp2_with fail
            go_end0
            have hp := HR.out
            rw [List.take_of_length_le (by omega), ← hLD, List.append_assoc] at hp
            exact ⟨rfl, HFIN.out _ (n + 1) _ hp (by rw [HBD.out]) (by omega)⟩
end Go.Proofs.YtlffgepnhhnadaaGreatDoor.Pl
