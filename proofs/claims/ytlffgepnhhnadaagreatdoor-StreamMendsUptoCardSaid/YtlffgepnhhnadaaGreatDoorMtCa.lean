/- The document's pen: a line string, walked. -/
import Derived.Test.YtlffgepnhhnadaaGreatDoorMtC
namespace Go.Proofs.YtlffgepnhhnadaaGreatDoor.Pl
open Go.RowKit

set_option maxRecDepth 100000 in
set_option maxHeartbeats 40000000 in
theorem pen_ln (d : Nat) (g : G) (hkind : g.kind = 2) : PenAt (d + 1) g := by
  intro B pb n v l lt cs w hd hp hI hkd hl hn hB
  obtain ⟨kd, ln, rg, pt⟩ := g
  have hdp : depths pt ≤ d := by simp only [depth] at hd; omega
  have henc := encG_eq [lt] kd ln rg pt n lt (ordB_one lt n)
  simp only [KindG] at hkd
  obtain ⟨hk0, hk1, hk2, hk3, hk4, hk5⟩ := hkd
  obtain ⟨kn, rfl⟩ : ∃ kn : Nat, kd = kn := ⟨kd.toNat, by omega⟩
  simp only [IsG] at hI
  obtain ⟨v1, v2, v3, rfl, hln, ⟨vr, hrs, hre⟩, vp, hps, hpt⟩ := hI
  obtain ⟨w1, hw1⟩ : ∃ w1, w1 = w.alloc (.cells #[.int .i64 (kn : Int), v1, v2, v3] 27) := ⟨_, rfl⟩
  have hb1 : Below w.heap.size w w1 := by subst hw1; exact (Below.refl _ w).alloc (Nat.le_refl _) _
  have hx1 : w1.heap[w.heap.size]? = some (.cells #[.int .i64 (kn : Int), v1, v2, v3] 27 (0, 0)) := by subst hw1; exact World.alloc_heap_new _ _
  have hp1 := hp.below hb1
  have hk01 : KeepP pb w w1 := .of_below hp.pblt hb1
  have ha1 := hp.apt hb1 w.heap.size (Nat.le_refl _) (lt_of_heap hx1)
  have HOR := Lib.hid (porder_any w1 hp1 (by omega))
  have HA := Lib.hid (And.intro ha1 (And.intro hx1 (And.intro hk01 (hb1.mono hB))))
  have HI := Lib.hid (And.intro hln (And.intro hrs (And.intro hre (And.intro hps hpt))))
  have HEN := Lib.hid henc
  have hB1 : B ≤ w1.heap.size := Nat.le_trans hB hb1.size
  have hl5 : l.length + (5 + (encBody [lt] (kn : Int) ln rg pt n lt).length) ≤ 70368744177664 := by rw [henc] at hl; simp only [List.length_cons, List.length_append, encB_length] at hl; omega
  -- the box's cells, in every world that the pen leaves
  have HBX : Hid (∀ W : World, W.heap[w.heap.size]? = w1.heap[w.heap.size]? → W.cell? ⟨w.heap.size, 0, none⟩ = some (.int .i64 (kn : Int)) ∧ W.cell? ⟨w.heap.size, 1, none⟩ = some v1 ∧ W.cell? ⟨w.heap.size, 2, none⟩ = some v2 ∧ W.cell? ⟨w.heap.size, 3, none⟩ = some v3) := Lib.hid fun W hW => by
    have k1 := hW.trans hx1
    exact ⟨cell_row (cs := [_, _, _, _]) (j := 0) k1 rfl, cell_row (cs := [_, _, _, _]) (j := 1) k1 rfl, cell_row (cs := [_, _, _, _]) (j := 2) k1 rfl, cell_row (cs := [_, _, _, _]) (j := 3) k1 rfl⟩
  obtain ⟨_, A1, m1, rfl, _, _, _⟩ := hln
  obtain ⟨A2, m2, rfl, _, hrl, _⟩ := hrs
  obtain ⟨A3, m3, rfl, _, hpl, _⟩ := hps
  clear hp hp1 ha1 hx1 hk01 hb1 hre hpt henc hl
  go_enter Tryz.func55, Tryz.ntmps55
  go_upto_region 1 with (fail)
  rw [← hw1]
  clear hw1
  go_wp2_with fail
  refine HOR.out.mono ?_
  rintro e w2 ⟨rfl, hp2, hb2, hk2⟩
  have hs2 : PnS B w1 pb lt (n + 1) l w2 := ⟨v, hp2, hk2, hb2⟩
  have HS2 := Lib.hid (And.intro hs2 (And.intro hp2 (And.intro hk2 hb2)))
  have hB2 : B ≤ w2.heap.size := Nat.le_trans hB1 hb2.size
  clear hs2 hp2 hb2 hk2 HOR
  go_upto_if 9 with (fail)
  go_cut [] (fun W => PnS B w1 pb lt (n + 1) (l ++ [if lt then 1 else 0]) W)
  case first =>
    have c0 := HS2.out.2.1.c0
    have f0 := HS2.out.2.1.fz 0
    have hal : Below w2.heap.size w2 (w2.alloc (.cells #[bv (if lt then 1 else 0)] 5)) := (Below.refl _ w2).alloc (Nat.le_refl _) _
    have HAL := Lib.hid hal
    have H1 := Lib.hid (one_byte w2 (if lt then 1 else 0))
    have hlp := HS2.out.2.1.pblt
    have hne := HS2.out.2.1.ne
    cases lt with
    | true =>
      have HAL : Hid (Below w2.heap.size w2 (w2.alloc (.cells #[.int .u8 1] 5))) := HAL
      have H1 : Hid (OwnB w2.heap.size (w2.alloc (.cells #[.int .u8 1] 5)) (.slice (some ⟨w2.heap.size, 0, none⟩) 1 1) [1]) := H1
      go_wp2_with (at_builtin; go_must (
        refine (list_append rfl (.tmp 14) (.tmp 15) rfl v _ (by rfl) (by rfl) (ownsRow_below HS2.out.2.1.own HAL.out) H1.out (by simp) (by simp only [List.length_cons, List.length_nil]; omega) (Nat.le_trans hB2 HAL.out.size) ?_)
        intro g3 cap3 w4 ho3 hgr3 hg3 hlt3
        have hq3 : w4.cell? ⟨pb, 0, none⟩ = some v := (World.cell?_of_block (a := ⟨pb, 0, none⟩) (hgr3.block pb (Nat.lt_of_lt_of_le hlp HAL.out.size) (fun e => hne e.symm))).trans ((HAL.out.cell (p := ⟨pb, 0, none⟩) hlp).trans c0)
        have hf3 : w4.frozen? ⟨pb, 0, none⟩ = false := (World.frozen?_of_block (a := ⟨pb, 0, none⟩) (hgr3.block pb (Nat.lt_of_lt_of_le hlp HAL.out.size) (fun e => hne e.symm))).trans ((HAL.out.frozen (p := ⟨pb, 0, none⟩) hlp).trans f0)
        have HR3 := Lib.hid (GrewB.app HAL.out ho3 hgr3 hg3)
        clear ho3 hgr3 hg3 hlt3))
      go_meet
      case rel => exact PnS.step HS2.out.2.1 HS2.out.2.2.1 HS2.out.2.2.2 hB1 HR3.out
    | false =>
      have HAL : Hid (Below w2.heap.size w2 (w2.alloc (.cells #[.int .u8 0] 5))) := HAL
      have H1 : Hid (OwnB w2.heap.size (w2.alloc (.cells #[.int .u8 0] 5)) (.slice (some ⟨w2.heap.size, 0, none⟩) 1 1) [0]) := H1
      go_wp2_with (at_builtin; go_must (
        refine (list_append rfl (.tmp 23) (.tmp 24) rfl v _ (by rfl) (by rfl) (ownsRow_below HS2.out.2.1.own HAL.out) H1.out (by simp) (by simp only [List.length_cons, List.length_nil]; omega) (Nat.le_trans hB2 HAL.out.size) ?_)
        intro g3 cap3 w4 ho3 hgr3 hg3 hlt3
        have hq3 : w4.cell? ⟨pb, 0, none⟩ = some v := (World.cell?_of_block (a := ⟨pb, 0, none⟩) (hgr3.block pb (Nat.lt_of_lt_of_le hlp HAL.out.size) (fun e => hne e.symm))).trans ((HAL.out.cell (p := ⟨pb, 0, none⟩) hlp).trans c0)
        have hf3 : w4.frozen? ⟨pb, 0, none⟩ = false := (World.frozen?_of_block (a := ⟨pb, 0, none⟩) (hgr3.block pb (Nat.lt_of_lt_of_le hlp HAL.out.size) (fun e => hne e.symm))).trans ((HAL.out.frozen (p := ⟨pb, 0, none⟩) hlp).trans f0)
        have HR3 := Lib.hid (GrewB.app HAL.out ho3 hgr3 hg3)
        clear ho3 hgr3 hg3 hlt3))
      go_meet
      case rel => exact PnS.step HS2.out.2.1 HS2.out.2.2.1 HS2.out.2.2.2 hB1 HR3.out
  case rest =>
    obtain ⟨va, hpa, hka, hba⟩ := hcut
    obtain ⟨wa, hwa⟩ : ∃ wa, wa = wc := ⟨_, rfl⟩
    subst hwa
    have HPa := Lib.hid (And.intro hpa (And.intro hka hba))
    have hBa : B ≤ wa.heap.size := Nat.le_trans hB1 hba.size
    clear hpa hka hba
    have hku : IntKind.u64.wrap (kn : Int) = (kn : Int) := by rw [IntKind.wrap_u64]; omega
    have hla : (l ++ [if lt then (1 : UInt8) else 0]).length = l.length + 1 := by simp
    obtain ⟨la, hLA⟩ : ∃ la, l ++ [if lt then (1 : UInt8) else 0] = la := ⟨_, rfl⟩
    rw [hLA] at HPa hla
    go_upto_region 5 with (fail)
    go_cut [] (fun W => PnS B w1 pb lt (n + 1) (la ++ encB 4 kn lt) W)
    case first =>
      have c0 := HPa.out.1.c0
      have f0 := HPa.out.1.fz 0
      obtain ⟨bx0, bx1, bx2, bx3⟩ := HBX.out wa (HPa.out.2.1 _ HA.out.1).1
      have hdr : Below wa.heap.size wa wa.drew := ⟨rfl, rfl, rfl, Nat.le_refl _, fun _ _ => rfl⟩
      have HDR := Lib.hid (ownsRow_below HPa.out.1.own hdr)
      clear hdr
      have HQ := Lib.hid (fun W (h : OwnB B W va (la)) (hs : B ≤ W.heap.size) => put_any kn 4 lt W h (by omega) (by omega) (by omega) hs)
      go_region_law (first
        | ((try go_simp)
           go_at_call 69
           refine (HQ.out _ ?_ ?_).mono ?_
           · first | exact HPa.out.1.own | exact HDR.out
           · exact hBa
           rintro e wm ⟨vm, rfl, hg⟩
           replace hg := by first | exact GrewB.undrew1 hg | exact hg
           obtain ⟨am, nm, km, rfl⟩ := hg.slice
           obtain ⟨hq3, hf3, hk3⟩ := pn_mid HPa.out.1 hg
           have HG := Lib.hid hg
           clear hg))
      all_goals
        go_wp2_with fail
        go_meet
        case rel =>
          have hfin := PnS.step HPa.out.1 HPa.out.2.1 HPa.out.2.2 hB1 HG.out
          simpa only [List.append_assoc] using hfin
    case rest =>
      obtain ⟨vb, hpb, hkb, hbb⟩ := hcut
      obtain ⟨wb, hwb⟩ : ∃ wb, wb = wc := ⟨_, rfl⟩
      subst hwb
      have HPb := Lib.hid (And.intro hpb (And.intro hkb hbb))
      have hBb : B ≤ wb.heap.size := Nat.le_trans hB1 hbb.size
      clear hpb hkb hbb
      obtain ⟨lb, hLB⟩ : ∃ lb, la ++ encB 4 kn lt = lb := ⟨_, rfl⟩
      have hlb : lb.length = l.length + 5 := by rw [← hLB, List.length_append, encB_length]; omega
      rw [hLB] at HPb
      have HFIN : Hid (∀ (W : World) (m : Nat) (l' : List UInt8), PnS B w1 pb lt m l' W → l' = lb ++ encBody [lt] kn ln rg pt n lt → m = n + begunG (.mk kn ln rg pt) → PnS B w pb lt (n + begunG (.mk kn ln rg pt)) (l ++ encG [lt] (.mk kn ln rg pt) n) W) := Lib.hid fun W m l' h hl' hm => by
        subst hm
        obtain ⟨vv, h1, h2, h3⟩ := h
        have e : l ++ encG [lt] (.mk (kn : Int) ln rg pt) n = l' := by
          rw [hl', ← hLB, ← hLA, HEN.out, show ((kn : Int) % 4294967296).toNat = kn by omega]
          simp only [List.append_assoc, List.singleton_append]
          cases lt <;> rfl
        rw [e]
        exact ⟨vv, h1, HA.out.2.2.1.trans h2, HA.out.2.2.2.trans h3⟩
      clear hLA hLB
      obtain ⟨bx0, bx1, bx2, bx3⟩ := HBX.out wb (HPb.out.2.1 _ HA.out.1).1
      have h2 : (kn : Int) = 2 := hkind
      have hbody : encBody [lt] (kn : Int) ln rg pt n lt = encB 4 ln.length lt ++ encPs lt ln := by simp [encBody, h2]
      have hm : begunG (.mk (kn : Int) ln rg pt) = 1 := by simp [begunG, h2]
      rw [hbody, List.length_append, encB_length, encPs_length] at hl5
      rw [hm] at hn
      rw [h2] at bx0
      have HBD := Lib.hid hbody
      clear h2 hbody
      have hlu : IntKind.u64.wrap (ln.length : Int) = (ln.length : Int) := by rw [IntKind.wrap_u64]; omega
      go_upto_region 17 with (fail)
      have c0 := HPb.out.1.c0
      have f0 := HPb.out.1.fz 0
      obtain ⟨bx0, bx1, bx2, bx3⟩ := HBX.out wb (HPb.out.2.1 _ HA.out.1).1
      have hdr : Below wb.heap.size wb wb.drew := ⟨rfl, rfl, rfl, Nat.le_refl _, fun _ _ => rfl⟩
      have HDR := Lib.hid (ownsRow_below HPb.out.1.own hdr)
      clear hdr
      have HQ := Lib.hid (fun W (h : OwnB B W vb (lb)) (hs : B ≤ W.heap.size) => put_any ln.length 4 lt W h (by omega) (by omega) (by omega) hs)
      have HQ2 := Lib.hid (fun W u (h : OwnB B W u (lb ++ encB 4 ln.length lt)) (hb : ∀ b, Apt wb pb b → u.ownBlock ≠ some b) (hp : Pts (Apt wb pb) W (Value.slice A1 ln.length m1) ln) (hs : B ≤ W.heap.size) => putPairs_any lt W h hp hb (by rw [List.length_append, encB_length]; omega) hs)
      go_region_law (first
        | ((try go_simp)
           go_at_call 70
           refine (HQ2.out _ (.slice am nm km) ?_ HM.out.2.1 ?_ ?_).mono ?_
           · first | exact HM.out.1.own | exact ownsRow_below HM.out.1.own ⟨rfl, rfl, rfl, Nat.le_refl _, fun _ _ => rfl⟩
           · exact HM.out.2.2
           · exact Nat.le_trans hBb HM.out.1.grown.size
           rintro e wn ⟨vn, rfl, hgn⟩
           replace hgn := by first | exact GrewB.undrew1 hgn | exact hgn
           obtain ⟨an, nn, kn', rfl⟩ := hgn.slice
           have HG := Lib.hid (HM.out.1.trans hgn)
           obtain ⟨hq4, hf4, hk4⟩ := pn_mid HPb.out.1 HG.out
           clear hgn)
        | ((try go_simp)
           go_at_call 69
           refine (HQ.out _ ?_ ?_).mono ?_
           · first | exact HPb.out.1.own | exact HDR.out
           · exact hBb
           rintro e wm ⟨vm, rfl, hg⟩
           replace hg := by first | exact GrewB.undrew1 hg | exact hg
           obtain ⟨am, nm, km, rfl⟩ := hg.slice
           obtain ⟨hq3, hf3, hk3⟩ := pn_mid HPb.out.1 hg
           have hm1 : ∀ b, Apt wb pb b → (Value.slice am nm km).ownBlock ≠ some b := fun b hb e => by
             rcases hg.blk b e with h | h
             · exact hb.2.2 _ c0 h
             · have := hb.1; omega
           have hm2 := Pts.keeps (Pts.pr (Pts.pr HI.out.1 HA.out.2.2.1) HPb.out.2.1) (fun b _ hb ho _ => (hk3 b hb).trans ho)
           obtain ⟨by0, by1, by2, by3⟩ := HBX.out wm ((hk3 _ (HPb.out.2.1 _ HA.out.1).2).trans (HPb.out.2.1 _ HA.out.1).1)
           have HM := Lib.hid (And.intro hg (And.intro hm1 hm2))
           clear hm1 hm2
           clear hg))
      all_goals
        go_wp2_with fail
        go_end0
        have hfin := PnS.step HPb.out.1 HPb.out.2.1 HPb.out.2.2 hB1 HG.out
        exact ⟨rfl, HFIN.out _ (n + 1) _ hfin (by rw [HBD.out, List.append_assoc]) (by omega)⟩
end Go.Proofs.YtlffgepnhhnadaaGreatDoor.Pl
