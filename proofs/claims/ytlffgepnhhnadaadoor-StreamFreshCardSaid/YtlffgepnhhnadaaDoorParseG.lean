/- wkb's parser, walked: a geometry. -/
import Derived.Test.YtlffgepnhhnadaaDoorParseH
namespace Go.Proofs.YtlffgepnhhnadaaDoor.Pl
open Go.RowKit

set_option maxRecDepth 100000 in
set_option maxHeartbeats 2000000 in
theorem geom_rd : ∀ (f : Nat) (B pb rb at_ : Nat) (v : Value) (l : List UInt8) (deep level home : Int) (os : List Bool) (w : World), IsPar B w pb rb v l at_ deep os → os.length ≤ at_ → B ≤ w.heap.size → deep ≤ 256 → 0 ≤ level → level ≤ 257 → level + f = 258 → 0 ≤ home ∧ home ≤ 7 →
    Calls Tryd.prog 110 #[.pointer (some ⟨pb, 0, none⟩), .int .i64 level, .int .i64 home] w
      (PPost B w pb rb v l deep (fun x u w' => ∃ cs, u = .agg cs.toArray ∧ IsN (NewR w w' pb rb) w' x cs) ((geomR l deep f level home at_).map fun x => (x.1.1, x.2, os ++ x.1.2))) := by
  intro f
  induction f with
  | zero => intro _ _ _ _ _ _ _ _ _ _ _ _ _ _ hd h0 h7 hf; omega
  | succ f ih =>
  intro B pb rb at_ v l deep level home os w hp hos hB hd h0 h7 hf hh
  have hdl : l.length ≤ 140737488355328 := by obtain ⟨A, c, _, _, h, _⟩ := hp.bytes; omega
  obtain ⟨w1, hw1⟩ : ∃ w1, w1 = w.alloc (.cells #[.int .i64 0, .slice none 0 0, .slice none 0 0, .slice none 0 0] 51) := ⟨_, rfl⟩
  have hb1 : Below w.heap.size w w1 := by subst hw1; exact (Below.refl _ w).alloc (Nat.le_refl _) _
  have hk1 : KeepR pb rb w w1 := .of_below hp.lt hb1
  have hB1 : Below B w w1 := hb1.mono hB
  have hp1 := hp.below hb1
  have HP1 := Lib.hid hp1
  have HA := Lib.hid (At_any w1 hp1.rd)
  have HN := Lib.hid (need_any 1 w1 hp1)
  have c0 := hp1.c0
  have hz1 : w1.heap[w.heap.size]? = some (.cells #[.int .i64 0, .slice none 0 0, .slice none 0 0, .slice none 0 0] 51 (0, 0)) := by subst hw1; exact World.alloc_heap_new _ _
  have HZ := Lib.hid (And.intro hz1 (And.intro (hp.apt hb1 w.heap.size (Nat.le_refl _) (lt_of_heap hz1)) hk1))
  clear hz1
  have hsz1 : w.heap.size < w1.heap.size := by subst hw1; exact Nat.lt_of_lt_of_le (Nat.lt_succ_self _) (Nat.le_of_eq (Array.size_push _).symm)
  have c00 := hp.c0
  have hpl := hp.lt
  have IH := Lib.hid ih
  have HP0 := Lib.hid hp
  clear ih hp hp1
  go_enter Tryd.func110, Tryd.ntmps110
  go_wp2_with fail
  rw [← hw1]
  clear hw1
  refine HA.out.mono ?_
  rintro e w' ⟨rfl, rfl⟩
  go_wp2_with fail
  refine HN.out.mono ?_
  by_cases g1 : l.length - at_ < 1
  · rw [if_pos g1]
    have HG := Lib.hid (geomR_err (f := f) (e := ((at_ : Int), 160)) (by simp only [headR]; rw [dif_pos g1] : headR l deep at_ level home = _))
    rintro e w' ⟨hb, he⟩
    cases he
    have HB := Lib.hid (hB1.trans hb)
    clear hb g1
    go_wp2
    refine ⟨rfl, HB.out, ?_⟩
    rw [HG.out]; rfl
  rw [if_neg g1]
  rintro e w2 ⟨hb2, u2, rfl, _, hp2, hk2⟩
  have hl1 : at_ < l.length := by omega
  have c0 := hp2.c0
  have HP2 := Lib.hid hp2
  have HB2 := Lib.hid (hB1.trans hb2)
  have HK2 := Lib.hid hk2
  have HBY := Lib.hid (Byte_any w2 hp2.rd hl1)
  clear hp2 hb2 hk2
  obtain ⟨ob, hob⟩ : ∃ ob, ob = l[at_].toNat := ⟨_, rfl⟩
  have hhead := headR_eq l deep at_ level home hl1
  simp only [bv] at HBY
  rw [← hob] at HBY hhead
  have hlto : ob < 256 := by rw [hob]; exact l[at_].toNat_lt
  have HOB := Lib.hid hob
  clear hob g1
  have HHD := Lib.hid hhead
  clear hhead
  go_wp2_with fail
  refine HBY.out.mono ?_
  rintro e w3 ⟨rfl, hr, hg⟩
  have HS3 := Lib.hid (HP2.out.step hr hg)
  have HB3 := Lib.hid (HB2.out.trans HS3.out.2.2)
  have HK3 := Lib.hid (HK2.out.trans HS3.out.2.1)
  have c0 := HS3.out.1.c0
  have HN4 := Lib.hid (need_any 4 w3 HS3.out.1)
  clear hr hg
  by_cases g2 : 1 < ob
  · go_wp2
    refine ⟨rfl, HB3.out, ?_⟩
    rw [geomR_err (by rw [HHD.out, if_pos g2])]; rfl
  obtain ⟨lt, hlt⟩ : ∃ lt : Bool, (ob == 1) = lt := ⟨_, rfl⟩
  have hbi : ((ob : Int) == 1) = lt := by rw [← hlt, Bool.eq_iff_iff]; simp; omega
  rw [hlt] at HHD
  go_wp2_with fail
  refine HN4.out.mono ?_
  by_cases g3 : l.length - (at_ + 1) < 4
  · rw [if_pos g3]
    rintro e w' ⟨hb, he⟩
    cases he
    have HB := Lib.hid (HB3.out.trans hb)
    have HG := Lib.hid (geomR_err (f := f) (e := ((at_ : Int) + 1, 160)) (by rw [HHD.out, if_neg g2, if_pos g3]) )
    clear hb g3
    go_wp2
    refine ⟨rfl, HB.out, ?_⟩
    rw [HG.out]; rfl
  rw [if_neg g3]
  rintro e w4 ⟨hb4, u4, rfl, _, hp4, hk4⟩
  have c0 := hp4.c0
  have c1 := hp4.c1
  have HW := Lib.hid (Word32_any lt w4 hp4.rd (by omega))
  change Hid (Calls _ _ _ _ fun e w'' => e = .returned (.int .u32 (wd l (at_ + 1) 4 lt)) ∧ _) at HW
  have hkl := wd_lt l (at_ + 1) 4 lt
  obtain ⟨kd, hkd⟩ : ∃ kd, wd l (at_ + 1) 4 lt = kd := ⟨_, rfl⟩
  rw [hkd] at HW hkl
  rw [hkd, if_neg g2, if_neg g3] at HHD
  have HP4 := Lib.hid hp4
  have HB4 := Lib.hid (HB3.out.trans hb4)
  have HK4 := Lib.hid (HK3.out.trans hk4)
  clear hp4 hb4 hk4 g3 hkd
  go_wp2_with fail
  refine HW.out.mono ?_
  rintro e w5 ⟨rfl, hr, hg⟩
  have HS5 := Lib.hid (HP4.out.step hr hg)
  have HB5 := Lib.hid (HB4.out.trans HS5.out.2.2)
  have HK5 := Lib.hid (HK4.out.trans HS5.out.2.1)
  have c0 := HS5.out.1.c0
  have c1 := HS5.out.1.c1
  clear hr hg
  have hwa : IntKind.i64.wrap ((at_ : Int) + 1) = (at_ : Int) + 1 := by rw [IntKind.wrap_i64]; omega
  by_cases g4 : kd < 1 ∨ 7 < kd
  · have HG := Lib.hid (geomR_err (f := f) (e := ((at_ : Int) + 1, 171)) (by rw [HHD.out, if_pos g4]))
    have g4' : (kd : Int) < 1 ∨ 7 < (kd : Int) := by omega
    rcases g4' with g4' | g4'
    · go_wp2
      refine ⟨rfl, HB5.out, ?_⟩
      rw [HG.out]; rfl
    · have g5 : ¬ (kd : Int) < 1 := by omega
      go_wp2
      refine ⟨rfl, HB5.out, ?_⟩
      rw [HG.out]; rfl
  rw [if_neg g4] at HHD
  have g41 : ¬ (kd : Int) < 1 := by omega
  have g47 : ¬ 7 < (kd : Int) := by omega
  have hwk : IntKind.i64.wrap (kd : Int) = kd := by rw [IntKind.wrap_i64]; omega
  have HM := Lib.hid (member_any home kd w5 hh)
  go_wp2_with fail
  refine HM.out.mono ?_
  rintro e w' ⟨rfl, rfl⟩
  obtain ⟨mb, hmb⟩ : ∃ mb, memberB home kd = mb := ⟨_, rfl⟩
  rw [hmb] at HHD ⊢
  cases mb
  · have HG := Lib.hid (geomR_err (f := f) (e := ((at_ : Int) + 1, 172)) (by rw [HHD.out, if_pos rfl]))
    go_wp2
    refine ⟨rfl, HB5.out, ?_⟩
    rw [HG.out]; rfl
  rw [if_neg (by simp)] at HHD
  by_cases g5 : deep < level
  · have HG := Lib.hid (geomR_err (f := f) (e := ((at_ : Int), 191)) (by rw [HHD.out, if_pos g5]))
    go_wp2
    refine ⟨rfl, HB5.out, ?_⟩
    rw [HG.out]; rfl
  rw [if_neg g5] at HHD
  obtain ⟨ov, hblk, hown, hne, hne2⟩ := HS5.out.1.mem
  have hq2 : w5.cell? ⟨pb, 2, none⟩ = some ov := by simp [World.cell?, hblk]
  have hf2 : w5.frozen? ⟨pb, 2, none⟩ = false := by simp [World.frozen?, hblk]
  have hB5 : B ≤ w5.heap.size := Nat.le_trans hB HB5.out.size
  have hpl5 := HS5.out.1.lt
  obtain ⟨w6, hw6⟩ : ∃ w6, w6 = w5.alloc (.cells #[.bool lt] 4) := ⟨_, rfl⟩
  have hal : Below w5.heap.size w5 w6 := by subst hw6; exact (Below.refl _ w5).alloc (Nat.le_refl _) _
  have HV := Lib.hid (hown.belowO hal)
  have HY : Hid (OwnO w5.heap.size w6 (.slice (some ⟨w5.heap.size, 0, none⟩) 1 1) [lt]) := by subst hw6; exact Lib.hid (one_bool w5 lt)
  have hf6 : w6.frozen? ⟨pb, 2, none⟩ = false := by rw [hal.frozen (p := ⟨pb, 2, none⟩) hpl5]; exact hf2
  have hBs : B ≤ w6.heap.size := Nat.le_trans hB5 hal.size
  have HBK := Lib.hid hblk
  have HOS := Lib.hid hown
  clear hblk hown
  go_upto_region 16 with (first
    | (refine (list_appendO rfl (.tmp 75) (.tmp 77) rfl ov _ rfl rfl (hw6 ▸ HV.out) (hw6 ▸ HY.out) (by omega) (hw6 ▸ hBs) ?_)
       intro g3 cap3 w7 ho3 hgr3 hg3 hlt3
       rw [← hw6] at hgr3 hg3
       have hf7 : w7.frozen? ⟨pb, 2, none⟩ = false := by rw [World.frozen?_of_block (w := w6) (hgr3.block pb (Nat.lt_of_lt_of_le hpl5 hal.size) (fun e => hne e.symm))]; exact hf6
       have hq7 : w7.cell? ⟨pb, 2, none⟩ = some ov := hgr3.cell (a := ⟨pb, 2, none⟩) ((hal.cell (p := ⟨pb, 2, none⟩) hpl5).trans hq2) (fun e => hne e.symm)
       have HR3 := Lib.hid (And.intro ho3 (And.intro hgr3 (And.intro hg3 hlt3)))
       clear ho3 hgr3 hg3 hlt3)
    | fail)
  have hgr := par_grow HS5.out.1 hB5 HBK.out HOS.out hne hne2 hal HR3.out.1 HR3.out.2.1 HR3.out.2.2.1
  obtain ⟨w8, hw8⟩ : ∃ w8, w8 = w7.setCell ⟨pb, 2, none⟩ (.slice (some ⟨g3, 0, none⟩) (os.length + 1) cap3) := ⟨_, rfl⟩
  rw [← hw8] at hgr ⊢
  obtain ⟨w9, hw9⟩ : ∃ w9, w9 = w8.alloc (.cells #[.int .i64 kd, .slice none 0 0, .slice none 0 0, .slice none 0 0] 51) := ⟨_, rfl⟩
  have hb9 : Below w8.heap.size w8 w9 := by subst hw9; exact (Below.refl _ w8).alloc (Nat.le_refl _) _
  have hg9 : w9.heap[w8.heap.size]? = some (.cells #[.int .i64 kd, .slice none 0 0, .slice none 0 0, .slice none 0 0] 51 (0, 0)) := by subst hw9; exact World.alloc_heap_new _ _
  have hp9 := hgr.1.below hb9
  have hap9 := hgr.1.apt hb9 w8.heap.size (Nat.le_refl _) (lt_of_heap hg9)
  have HK9 := Lib.hid (HK5.out.trans (hgr.2.1.trans (KeepR.of_below hgr.1.lt hb9)))
  have HB9 := Lib.hid (HB5.out.trans (hgr.2.2.trans (hb9.mono (Nat.le_trans hB5 hgr.2.2.size))))
  have HP9 := Lib.hid hp9
  have HP8 := Lib.hid hgr.1
  have HK89 := Lib.hid (KeepR.of_below (rb := rb) hgr.1.lt hb9)
  have HK8 := Lib.hid (HK5.out.trans hgr.2.1)
  have HG9 := Lib.hid hg9
  have HA9 := Lib.hid hap9
  have hw8s : w.heap.size ≤ w8.heap.size := Nat.le_trans HB5.out.size hgr.2.2.size
  have hb0 : w9.cell? ⟨w8.heap.size, 0, none⟩ = some (.int .i64 kd) := by simp [World.cell?, hg9]
  have c0 := hp9.c0
  have hB9 : B ≤ w9.heap.size := Nat.le_trans hB HB9.out.size
  clear hgr hb9 hg9 hp9 hap9 HR3 hf7 hq7 hw6 hw8 HV HY HBK HOS hq2 hf2 hf6 hne hne2 hal c1 HN4 HW HP4 HB4 HK4 HBY HP2 HB2 HK2 HN HA HP1 hb1 hk1 hB1 HM HS3 HB3 HK3
  go_upto_region 17 with (fail)
  rw [← hw9]
  clear hw9
  go_upto_block 1 with (fail)
  have HLV : Hid (0 ≤ level + 1 ∧ level + 1 ≤ 257 ∧ level + 1 + (f : Int) = 258) := Lib.hid (by omega)
  have hwl : IntKind.i64.wrap (level + 1) = level + 1 := by rw [IntKind.wrap_i64]; omega
  clear c00 hpl hsz1 hb0 hbi h0 hwa
  go_cut [] (fun W => GeoM B w w1 pb rb v l deep level home os f at_ kd w8.heap.size W)
  case first =>
    by_cases k1 : kd = 1
    · have HPL := Lib.hid (place_any lt w9 HP9.out hB9)
      have hgeo : geomR l deep (f + 1) level home at_ = (placeR l lt (at_ + 5)).map fun r => ((.mk 1 r.1 [] [], [lt]), r.2) := by
        simp only [geomR, HHD.out]; rw [if_pos k1]
      have HGE := Lib.hid hgeo
      clear hgeo
      subst k1
      have b0 := cell_row (cs := [_, _, _, _]) (j := 0) HG9.out rfl
      go_wp2_with fail
      refine HPL.out.mono ?_
      cases hq : placeR l lt (at_ + 5) with
      | error er =>
        rintro e w10 ⟨hb, he⟩
        cases he
        have HX := Lib.hid (HB9.out.trans hb)
        have HQ := Lib.hid hq
        clear hb hq
        go_wp2
        refine ⟨rfl, HX.out, ?_⟩
        rw [HGE.out, HQ.out]; rfl
      | ok r =>
        rintro e w10 ⟨hb, u, rfl, hv, hp, hk⟩
        have hg10 := (hk _ HA9.out).1.trans HG9.out
        have ha10 := (hk _ HA9.out).2
        have hq1 := cell_row (cs := [_, _, _, _]) (j := 1) hg10 rfl
        have hf1 := frozen_row (cs := [_, _, _, _]) hg10 1
        have hv' := hv
        obtain ⟨⟨_, A1, m1, rfl, _, _, _⟩, _⟩ := hv'
        have hst := HP8.out.set (HK89.out.trans hk) hp (Nat.le_refl _) ha10 1 (.slice A1 r.1.length m1)
        have hg11 := heap_store (cs := [_, _, _, _]) hg10 (j := 1) (.slice A1 r.1.length m1)
        have hb11 := (HB9.out.trans hb).setCell (p := ⟨w8.heap.size, 1, none⟩) (Nat.le_trans hB hw8s) (.slice A1 r.1.length m1)
        have HST := Lib.hid (And.intro hst (And.intro hg11 (And.intro hb11 hv)))
        have HQ := Lib.hid hq
        clear hst hg11 hb11 hg10 hb hp hk hv hq
        go_wp2
        go_meet
        case rel =>
          refine ⟨_, _, _, _, _, _, by rw [HGE.out, HQ.out]; rfl, ?_, by simpa using HST.out.2.1, ?_, ?_, HST.out.2.2.1⟩
          · have h9 : w8.heap.size < w9.heap.size := HA9.out.1
            have hpv : PtsN (fun b => AptR (w10.setCell ⟨w8.heap.size, 1, none⟩ (.slice A1 r.1.length m1)) pb rb b ∧ w8.heap.size < b) (w10.setCell ⟨w8.heap.size, 1, none⟩ (.slice A1 r.1.length m1)) (.slice A1 r.1.length m1) r.1 :=
              (HST.out.2.2.2.keeps (keeps_set fun b hb e => by have := hb.2; omega)).mono fun b _ hb => ⟨hb.1.set HA9.out.2.2.1, Nat.lt_of_lt_of_le h9 hb.2⟩
            exact ⟨by simp only [IsG]; exact ⟨_, _, _, rfl, hpv.1, ⟨[], Sl.nil _ _, .nil⟩, [], Sl.nil _ _, rfl⟩, _, _, _, _, [], rfl, hpv.2, OwnL.nil _ _ _ _⟩
          · exact HST.out.1.1
          · exact HK8.out.trans HST.out.1.2.1
    have k1i : ¬ (kd : Int) = 1 := by omega
    by_cases k2 : kd = 2
    · have HCT := Lib.hid (count_any lt 16 (by omega) w9 HP9.out)
      have HGE0 : Hid (∀ er, countR l lt 16 (at_ + 5) = .error er → geomR l deep (f + 1) level home at_ = .error er) := Lib.hid fun er h => by
        simp only [geomR, HHD.out]; rw [if_neg k1, if_pos k2, h]
      have HGE : Hid (∀ n a, countR l lt 16 (at_ + 5) = .ok (n, a) → geomR l deep (f + 1) level home at_ = (ptsR l lt n a).map fun r => ((.mk 2 r.1 [] [], [lt]), r.2)) := Lib.hid fun n a h => by
        simp only [geomR, HHD.out]; rw [if_neg k1, if_pos k2, h]
      subst k2
      have b0 := cell_row (cs := [_, _, _, _]) (j := 0) HG9.out rfl
      go_wp2_with fail
      refine HCT.out.mono ?_
      cases hq : countR l lt 16 (at_ + 5) with
      | error er =>
        rintro e w10 ⟨hb, he⟩
        cases he
        have HX := Lib.hid (HB9.out.trans hb)
        have HQ := Lib.hid hq
        clear hb hq
        go_wp2
        refine ⟨rfl, HX.out, ?_⟩
        rw [HGE0.out _ HQ.out]; rfl
      | ok r =>
        obtain ⟨n, a⟩ := r
        rintro e w10 ⟨hb, u, rfl, rfl, hp, hk⟩
        obtain ⟨rfl, hnl, hn⟩ := countR_len hq
        have HGE := Lib.hid (HGE.out _ _ hq)
        have HPT := Lib.hid (points_rd lt n w10 hp (Nat.le_trans hB9 hb.size) (by omega))
        have HBK := Lib.hid (And.intro hb hk)
        have hsz10 := hb.size
        clear hb hk hp hq
        go_wp2_with fail
        refine HPT.out.mono ?_
        cases hq : ptsR l lt n (at_ + 5 + 4) with
        | error er =>
          rintro e w11 ⟨hb, he⟩
          cases he
          have HX := Lib.hid (HB9.out.trans (HBK.out.1.trans hb))
          have HQ := Lib.hid hq
          clear hb hq
          go_wp2
          refine ⟨rfl, HX.out, ?_⟩
          rw [HGE.out, HQ.out]; rfl
        | ok r =>
          rintro e w11 ⟨hb, u, rfl, hv, hp, hk⟩
          have hk2 := HBK.out.2.trans hk
          have hg10 := (hk2 _ HA9.out).1.trans HG9.out
          have ha10 := (hk2 _ HA9.out).2
          have hq1 := cell_row (cs := [_, _, _, _]) (j := 1) hg10 rfl
          have hf1 := frozen_row (cs := [_, _, _, _]) hg10 1
          have hv' := hv
          obtain ⟨⟨_, A1, m1, rfl, _, _, _⟩, _⟩ := hv'
          have hst := HP8.out.set (HK89.out.trans hk2) hp (Nat.le_refl _) ha10 1 (.slice A1 r.1.length m1)
          have hg11 := heap_store (cs := [_, _, _, _]) hg10 (j := 1) (.slice A1 r.1.length m1)
          have hb11 := (HB9.out.trans (HBK.out.1.trans hb)).setCell (p := ⟨w8.heap.size, 1, none⟩) (Nat.le_trans hB hw8s) (.slice A1 r.1.length m1)
          have HST := Lib.hid (And.intro hst (And.intro hg11 (And.intro hb11 hv)))
          have HQ := Lib.hid hq
          clear hst hg11 hb11 hg10 hb hp hk hk2 hv hq
          go_wp2
          go_meet
          case rel =>
            refine ⟨_, _, _, _, _, _, by rw [HGE.out, HQ.out]; rfl, ?_, by simpa using HST.out.2.1, ?_, ?_, HST.out.2.2.1⟩
            · have h9 : w8.heap.size < w9.heap.size := HA9.out.1
              have hpv : PtsN (fun b => AptR (w11.setCell ⟨w8.heap.size, 1, none⟩ (.slice A1 r.1.length m1)) pb rb b ∧ w8.heap.size < b) (w11.setCell ⟨w8.heap.size, 1, none⟩ (.slice A1 r.1.length m1)) (.slice A1 r.1.length m1) r.1 :=
                (HST.out.2.2.2.keeps (keeps_set fun b hb e => by have := hb.2; omega)).mono fun b _ hb => ⟨hb.1.set HA9.out.2.2.1, by have := hb.2; omega⟩
              exact ⟨by simp only [IsG]; exact ⟨_, _, _, rfl, hpv.1, ⟨[], Sl.nil _ _, .nil⟩, [], Sl.nil _ _, rfl⟩, _, _, _, _, [], rfl, hpv.2, OwnL.nil _ _ _ _⟩
            · exact HST.out.1.1
            · exact HK8.out.trans HST.out.1.2.1
    have k2i : ¬ (kd : Int) = 2 := by omega
    by_cases k3 : kd = 3
    · have HCT := Lib.hid (count_any lt 20 (by omega) w9 HP9.out)
      have HGE0 : Hid (∀ er, countR l lt 20 (at_ + 5) = .error er → geomR l deep (f + 1) level home at_ = .error er) := Lib.hid fun er h => by
        simp only [geomR, HHD.out]; rw [if_neg k1, if_neg k2, if_pos k3, h]
      have HGE : Hid (∀ n a, countR l lt 20 (at_ + 5) = .ok (n, a) → geomR l deep (f + 1) level home at_ = (manyR (ringR l lt) n a).map fun r => ((.mk 3 [] r.1 [], [lt]), r.2)) := Lib.hid fun n a h => by
        simp only [geomR, HHD.out]; rw [if_neg k1, if_neg k2, if_pos k3, h]
      subst k3
      have b0 := cell_row (cs := [_, _, _, _]) (j := 0) HG9.out rfl
      go_wp2_with fail
      refine HCT.out.mono ?_
      cases hq : countR l lt 20 (at_ + 5) with
      | error er =>
        rintro e w10 ⟨hb, he⟩
        cases he
        have HX := Lib.hid (HB9.out.trans hb)
        have HQ := Lib.hid hq
        clear hb hq
        go_wp2
        refine ⟨rfl, HX.out, ?_⟩
        rw [HGE0.out _ HQ.out]; rfl
      | ok r =>
        obtain ⟨n, a⟩ := r
        rintro e w10 ⟨hb, u, rfl, rfl, hp, hk⟩
        obtain ⟨rfl, hnl, hn⟩ := countR_len hq
        have HGE := Lib.hid (HGE.out _ _ hq)
        have HGI := Lib.hid (GrowI.start (t := 48) 2 1 (.inl rfl) hp (HK89.out.trans hk) (HB9.out.trans hb) (hk _ HA9.out).2 ((hk _ HA9.out).1.trans HG9.out))
        clear hb hk hp hq
        go_wp2_with fail
        go_loopw [127] (fun i wr => ∃ k : Nat, k ≤ n ∧ i = .int .i64 k ∧ Hid (RingsI B w w8 pb rb w8.heap.size v l deep (os ++ [lt]) lt n (at_ + 5 + 4) k wr)) (fun i _ => n - (intOf i).toNat)
        case atStart =>
          exact ⟨0, Nat.zero_le _, rfl, [], _, [], _, rfl, manyK_start _ _ _, HGI.out, .nil⟩
        case round =>
          obtain ⟨k, hk, rfl, acc, a, vs, sv, hal, hmk, hgi, hea⟩ := hrel
          by_cases hkn : k < n
          · obtain ⟨m, hm⟩ : ∃ m, n - k = m + 1 := ⟨n - k - 1, by omega⟩
            rw [hm] at hmk
            have HM := Lib.hid hmk
            have HGI2 := Lib.hid hgi
            have HEA := Lib.hid hea
            have hBr : B ≤ wr.heap.size := Nat.le_trans hB hgi.below.size
            have HRG := Lib.hid (fun W (h : IsPar B W pb rb v l a deep (os ++ [lt])) (hs : B ≤ W.heap.size) => ring_any lt W h hs)
            have c2 := cell_row (j := 2) (x := sv) hgi.box rfl
            clear hmk hgi hea
            cases hq : ringR l lt a with
            | error er =>
              rw [hq] at HRG
              have hres : manyR (ringR l lt) n (at_ + 5 + 4) = .error er := manyK_err HM.out hq
              have HRES := Lib.hid hres
              clear hres
              go_wp2
              have f2 := frozen_row HGI2.out.box 2
              have c2a : (wr.alloc (.cells #[.slice none 0 0] 48)).cell? ⟨w8.heap.size, 2, none⟩ = some sv := by rw [World.cell?_alloc_lt _ _ _ HGI2.out.apt.1]; exact c2
              go_region_law (first
                | (refine dead_step (.slice none 0 0) wr HDEAD ?_)
                | (refine die_step (.slice none 0 0) wr ?_ fun HDEAD => ?_
                   · (try go_simp)
                     go_at_call 130
                     refine (HRG.out _ ?_ ?_).mono ?_
                     · first | exact HGI2.out.par | exact HGI2.out.par.drewN 1
                     · exact hBr
                     rintro e w11 ⟨hb, he⟩
                     cases he
                     replace hb : Below B wr w11 := by first | exact hb | exact below_drewB hb | exact below_drewB1 hb
                     go_wp2
                     exact ⟨rfl, HGI2.out.below.trans hb, by rw [HGE.out, HRES.out]; rfl⟩))
              all_goals exact HDEAD.out.elim
            | ok r =>
              rw [hq] at HRG
              have HW12 : Hid (∀ A c, ∃ w12 : World → World, ∀ W : World, w12 W = W.alloc (.cells #[.slice A r.1.length c] 48)) := Lib.hid fun A c => ⟨_, fun _ => rfl⟩
              go_wp2
              go_region_law (first
                | (refine step_appendR rfl (.tmp 130) (.tmp 134) rfl sv (.slice A1 r.1.length m1) rfl rfl HV.out.1 HV.out.2.1 rfl (by omega) HV.out.2.2.1 ?_
                   intro g3 cap3 w13 ho3 hgr3 hg3 hlt3
                   have hf13 : w13.frozen? ⟨w8.heap.size, 2, none⟩ = false := by rw [World.frozen?_of_block (w := _) (hgr3.block w8.heap.size HV.out.2.2.2.1 (fun e => HV.out.2.2.2.2.1 e.symm))]; exact HV.out.2.2.2.2.2.1
                   have hq13 : w13.cell? ⟨w8.heap.size, 2, none⟩ = some sv := by rw [World.cell?_of_block (w := _) (hgr3.block w8.heap.size HV.out.2.2.2.1 (fun e => HV.out.2.2.2.2.1 e.symm))]; exact HV.out.2.2.2.2.2.2
                   have HR3 := Lib.hid (And.intro ho3 (And.intro hgr3 (And.intro hg3 hlt3)))
                   clear ho3 hgr3 hg3 hlt3)
                | ((try go_simp)
                   go_at_call 130
                   refine (HRG.out _ ?_ ?_).mono ?_
                   · first | exact HGI2.out.par | exact HGI2.out.par.drewN 1
                   · exact hBr
                   rintro e w11 ⟨hb, u, rfl, hv, hp, hk⟩
                   replace hb : Below B wr w11 := by first | exact hb | exact below_drewB hb | exact below_drewB1 hb
                   have hgc := HGI2.out.call hp hk hb
                   have hel : Pts (GrowOk w11 pb rb w8.heap.size sv) w11 u r.1 := hv.mono fun b _ hb => ⟨⟨hb.1, Nat.lt_of_lt_of_le HGI2.out.apt.1 hb.2⟩, fun e => by have := (World.ownsRow.lt HGI2.out.own b e).2; have h2 : wr.heap.size ≤ b := hb.2; omega⟩
                   have hv' := hv
                   obtain ⟨_, A1, m1, rfl, _, _, _⟩ := hv'
                   have c11 := cell_row (j := 2) (x := sv) hgc.1.box rfl
                   have f11 := frozen_row hgc.1.box 2
                   obtain ⟨w12, hw12⟩ : ∃ w12, w12 = w11.alloc (.cells #[.slice A1 r.1.length m1] 48) := ⟨_, rfl⟩
                   have hal12 : Below w11.heap.size w11 w12 := by subst hw12; exact (Below.refl _ w11).alloc (Nat.le_refl _) _
                   have hy12 : w12.cell? ⟨w11.heap.size, 0, none⟩ = some (.slice A1 r.1.length m1) := by subst hw12; rw [World.cell?_alloc_mark]; rfl
                   have HAL := Lib.hid hal12
                   have HV := Lib.hid (And.intro (ownsRow_below hgc.1.own hal12) (And.intro hy12 (And.intro (show w8.heap.size + 1 ≤ w12.heap.size from Nat.le_trans hgc.1.apt.1 hal12.size) (And.intro (Nat.lt_of_lt_of_le hgc.1.apt.1 hal12.size) (And.intro (show sv.ownBlock ≠ some w8.heap.size from fun e => by have := (World.ownsRow.lt hgc.1.own _ e).1; omega) (And.intro ((hal12.frozen (p := ⟨w8.heap.size, 2, none⟩) hgc.1.apt.1).trans f11) ((hal12.cell (p := ⟨w8.heap.size, 2, none⟩) hgc.1.apt.1).trans c11)))))))
                   have HGC := Lib.hid (And.intro hgc hel)
                   have c12 := (hal12.cell (p := ⟨w8.heap.size, 2, none⟩) hgc.1.apt.1).trans c11
                   subst hw12
                   clear hgc hel hv hb hp hk hal12 hy12))
              all_goals
                have HG := Lib.hid (GrowI.grow (w1 := w8) (Nat.le_refl _) (Nat.le_trans hB hw8s) HP8.out HGC.out.1.1 HAL.out HR3.out.1 HR3.out.2.1 HR3.out.2.2.1 HR3.out.2.2.2)
                have HNX := Lib.hid (manyK_next HM.out (x := r.1) (a' := r.2) hq)
                go_wp2
                go_roundw
                · refine ⟨k + 1, hkn, by simp, acc ++ [r.1], r.2, _, _, by simp [hal], ?_, HG.out.1, ?_⟩
                  · rw [show n - (k + 1) = m by omega]; exact HNX.out
                  · have h1 := HEA.out.imp fun _ _ h => (Pts.keeps h HGC.out.1.2.1).mono fun b _ hb => HGC.out.1.2.2 b hb
                    exact (h1.append (.cons HGC.out.2 .nil)).imp fun _ _ h => (Pts.keeps h HG.out.2.1).mono fun b _ hb => HG.out.2.2 b hb
                · simp [intOf]; omega
          · have hke : k = n := by omega
            subst hke
            rw [Nat.sub_self] at hmk
            have HRES := Lib.hid (manyK_end hmk)
            have HGI2 := Lib.hid hgi
            have HEA := Lib.hid hea
            clear hmk hgi hea
            go_wp2
            go_meet
            case rel =>
              refine ⟨.mk 3 [] acc [], a, [lt], .slice none 0 0, sv, .slice none 0 0, by rw [HGE.out, HRES.out]; rfl, ?_, by simpa using HGI2.out.box, HGI2.out.par, HK8.out.trans HGI2.out.keep, HGI2.out.below⟩
              refine ⟨?_, _, _, _, _, [], rfl, OwnL.nil _ _ _ _, OwnL.nil _ _ _ _⟩
              simp only [IsG]
              exact ⟨_, _, _, rfl, ⟨by simp, Sl.nil _ _⟩, ⟨vs, hal ▸ HGI2.out.sl (by omega), HEA.out.imp fun _ _ h => Pts.mono h fun b _ hb => hb.1⟩, [], Sl.nil _ _, rfl⟩
    have k3i : ¬ (kd : Int) = 3 := by omega
    obtain ⟨least, hls⟩ : ∃ least : Nat, (if kd = 4 then 21 else 9) = least := ⟨_, rfl⟩
    have hl30 : least ≤ 30 := by rw [← hls]; split <;> omega
    have hl9 : 9 ≤ least := by rw [← hls]; split <;> omega
    have HGE0 : Hid (∀ er, countR l lt least (at_ + 5) = .error er → geomR l deep (f + 1) level home at_ = .error er) := Lib.hid fun er h => by
      simp only [geomR, HHD.out]; rw [if_neg k1, if_neg k2, if_neg k3, hls, h]
    have HGE : Hid (∀ n a, countR l lt least (at_ + 5) = .ok (n, a) → geomR l deep (f + 1) level home at_ = (manyR (geomR l deep f (level + 1) kd) n a).map fun r => ((.mk kd [] [] (r.1.map (·.1)), lt :: (r.1.map (·.2)).flatten), r.2)) := Lib.hid fun n a h => by
      simp only [geomR, HHD.out]; rw [if_neg k1, if_neg k2, if_neg k3, hls, h]
    have HCT := Lib.hid (count_any lt least hl30 w9 HP9.out)
    have HLS := Lib.hid hls
    have b0 := cell_row (cs := [_, _, _, _]) (j := 0) HG9.out rfl
    clear hls hl30
    go_upto_if 88 with (fail)
    go_cut [12] (fun x W => x = .int .i64 (least : Int) ∧ W = w9)
    case first =>
      by_cases k4 : (kd : Int) = 4
      · go_wp2
        go_meet
        case rel =>
          have h := HLS.out
          rw [if_pos (by omega)] at h
          subst h
          exact ⟨rfl, rfl⟩
      · go_wp2
        go_meet
        case rel =>
          have h := HLS.out
          rw [if_neg (by omega)] at h
          subst h
          exact ⟨rfl, rfl⟩
    case rest =>
      obtain ⟨rfl, rfl⟩ := hcut
      go_wp2_with fail
      refine HCT.out.mono ?_
      cases hq : countR l lt least (at_ + 5) with
      | error er =>
        rintro e w10 ⟨hb, he⟩
        cases he
        have HX := Lib.hid (HB9.out.trans hb)
        have HQ := Lib.hid hq
        clear hb hq
        go_wp2
        refine ⟨rfl, HX.out, ?_⟩
        rw [HGE0.out _ HQ.out]; rfl
      | ok r =>
        obtain ⟨n, a⟩ := r
        rintro e w10 ⟨hb, u, rfl, rfl, hp, hk⟩
        obtain ⟨rfl, hnl, hn⟩ := countR_len hq
        have HGE := Lib.hid (HGE.out _ _ hq)
        have HGI := Lib.hid (GrowI.start (t := 51) 3 4 (.inr rfl) hp (HK89.out.trans hk) (HB9.out.trans hb) (hk _ HA9.out).2 ((hk _ HA9.out).1.trans HG9.out))
        clear hb hk hp hq hnl b0
        go_wp2_with fail
        go_loopw [93] (fun i wr => ∃ k : Nat, k ≤ n ∧ i = .int .i64 k ∧ Hid (PartsI B w w8 pb rb w8.heap.size v l deep (os ++ [lt]) f (level + 1) kd n (at_ + 5 + 4) k wr)) (fun i _ => n - (intOf i).toNat)
        case atStart =>
          exact ⟨0, Nat.zero_le _, rfl, [], _, [], _, rfl, manyK_start _ _ _, by simp; omega, by simpa using HGI.out, by simp [IsGs]⟩
        case round =>
          obtain ⟨k, hk, rfl, acc, a, vs, sv, hal, hmk, hlen, hgi, hea⟩ := hrel
          by_cases hkn : k < n
          · obtain ⟨m, hm⟩ : ∃ m, n - k = m + 1 := ⟨n - k - 1, by omega⟩
            rw [hm] at hmk
            have HM := Lib.hid hmk
            have HGI2 := Lib.hid hgi
            have HEA := Lib.hid hea
            have hBr : B ≤ wr.heap.size := Nat.le_trans hB hgi.below.size
            have HRG := Lib.hid (fun W (h : IsPar B W pb rb v l a deep (os ++ [lt] ++ (acc.map (·.2)).flatten)) (hs : B ≤ W.heap.size) => IH.out B pb rb a v l deep (level + 1) kd _ W h hlen hs hd HLV.out.1 HLV.out.2.1 HLV.out.2.2 (by omega))
            have HLN := Lib.hid hlen
            have c2 := cell_row (j := 3) (x := sv) hgi.box rfl
            have c3 := cell_row (j := 0) (x := .int .i64 kd) hgi.box rfl
            clear hmk hgi hea hlen
            cases hq : geomR l deep f (level + 1) kd a with
            | error er =>
              rw [hq] at HRG
              have hres : manyR (geomR l deep f (level + 1) kd) n (at_ + 5 + 4) = .error er := manyK_err HM.out hq
              have HRES := Lib.hid hres
              clear hres
              go_wp2
              have f2 := frozen_row HGI2.out.box 3
              have c2a : (wr.alloc (.cells #[.int .i64 0, .slice none 0 0, .slice none 0 0, .slice none 0 0] 51)).cell? ⟨w8.heap.size, 3, none⟩ = some sv := by rw [World.cell?_alloc_lt _ _ _ HGI2.out.apt.1]; exact c2
              go_region_law (first
                | (refine dead_step (.slice none 0 0) wr HDEAD ?_)
                | (refine die_step (.agg #[.int .i64 0, .slice none 0 0, .slice none 0 0, .slice none 0 0]) wr ?_ fun HDEAD => ?_
                   · (try go_simp)
                     go_at_call 110
                     refine (HRG.out _ ?_ ?_).mono ?_
                     · first | exact HGI2.out.par | exact HGI2.out.par.drewN 1
                     · exact hBr
                     rintro e w11 ⟨hb, he⟩
                     cases he
                     replace hb : Below B wr w11 := by first | exact hb | exact below_drewB hb | exact below_drewB1 hb
                     go_wp2
                     exact ⟨rfl, HGI2.out.below.trans hb, by rw [HGE.out, HRES.out]; rfl⟩))
              all_goals exact HDEAD.out.elim
            | ok r =>
              obtain ⟨⟨x, os2⟩, a'⟩ := r
              rw [hq] at HRG
              go_wp2
              go_region_law (first
                | (refine step_appendG rfl (.tmp 96) (.tmp 103) rfl sv rfl rfl HV.out.1 HV.out.2.1 (by simp [Value.oneCell']) (by omega) HV.out.2.2.1 ?_
                   intro g3 cap3 w13 ho3 hgr3 hg3 hlt3
                   have hf13 : w13.frozen? ⟨w8.heap.size, 3, none⟩ = false := by rw [World.frozen?_of_block (w := _) (hgr3.block w8.heap.size HV.out.2.2.2.1 (fun e => HV.out.2.2.2.2.1 e.symm))]; exact HV.out.2.2.2.2.2.1
                   have hq13 : w13.cell? ⟨w8.heap.size, 3, none⟩ = some sv := by rw [World.cell?_of_block (w := _) (hgr3.block w8.heap.size HV.out.2.2.2.1 (fun e => HV.out.2.2.2.2.1 e.symm))]; exact HV.out.2.2.2.2.2.2
                   have HR3 := Lib.hid (And.intro ho3 (And.intro hgr3 (And.intro hg3 hlt3)))
                   clear ho3 hgr3 hg3 hlt3)
                | ((try go_simp)
                   go_at_call 110
                   refine (HRG.out _ ?_ ?_).mono ?_
                   · first | exact HGI2.out.par | exact HGI2.out.par.drewN 1
                   · exact hBr
                   rintro e w11 ⟨hb, u, rfl, ⟨cs, rfl, hv⟩, hp, hk⟩
                   replace hv := hv.1
                   replace hb : Below B wr w11 := by first | exact hb | exact below_drewB hb | exact below_drewB1 hb
                   have hgc := HGI2.out.call hp hk hb
                   have hel : IsG (GrowOk w11 pb rb w8.heap.size sv) w11 x cs := hv.mono fun b _ hb => ⟨⟨hb.1, Nat.lt_of_lt_of_le HGI2.out.apt.1 hb.2⟩, fun e => by have := (World.ownsRow.lt HGI2.out.own b e).2; have h2 : wr.heap.size ≤ b := hb.2; omega⟩
                   obtain ⟨kx, lx, rx, px⟩ := x
                   have hv2 := hv
                   simp only [IsG] at hv2
                   obtain ⟨x1, x2, x3, rfl, ⟨_, D1, m1, rfl, _⟩, ⟨_, ⟨D2, m2, rfl, _⟩, _⟩, _, ⟨D3, m3, rfl, _⟩, _⟩ := hv2
                   have c11 := cell_row (j := 3) (x := sv) hgc.1.box rfl
                   have d11 := cell_row (j := 0) (x := .int .i64 kd) hgc.1.box rfl
                   have f11 := frozen_row hgc.1.box 3
                   obtain ⟨w12, hw12⟩ : ∃ w12, w12 = w11.alloc (.cells #[.int .i64 kx, .slice D1 lx.length m1, .slice D2 rx.length m2, .slice D3 px.length m3] 51) := ⟨_, rfl⟩
                   have hal12 : Below w11.heap.size w11 w12 := by subst hw12; exact (Below.refl _ w11).alloc (Nat.le_refl _) _
                   have hy12 : ∀ j u, [Value.int .i64 kx, .slice D1 lx.length m1, .slice D2 rx.length m2, .slice D3 px.length m3][j]? = some u → w12.cell? ⟨w11.heap.size, j, none⟩ = some u := by subst hw12; intro j u h; rw [World.cell?_alloc_mark]; simpa using h
                   have HAL := Lib.hid hal12
                   have HV := Lib.hid (And.intro (ownsRow_below hgc.1.own hal12) (And.intro hy12 (And.intro (show w8.heap.size + 1 ≤ w12.heap.size from Nat.le_trans hgc.1.apt.1 hal12.size) (And.intro (Nat.lt_of_lt_of_le hgc.1.apt.1 hal12.size) (And.intro (show sv.ownBlock ≠ some w8.heap.size from fun e => by have := (World.ownsRow.lt hgc.1.own _ e).1; omega) (And.intro ((hal12.frozen (p := ⟨w8.heap.size, 3, none⟩) hgc.1.apt.1).trans f11) ((hal12.cell (p := ⟨w8.heap.size, 3, none⟩) hgc.1.apt.1).trans c11)))))))
                   have HGC := Lib.hid (And.intro hgc hel)
                   have c12 := (hal12.cell (p := ⟨w8.heap.size, 3, none⟩) hgc.1.apt.1).trans c11
                   subst hw12
                   clear hgc hel hv hb hp hk hal12 hy12))
              all_goals
                have HG := Lib.hid (GrowI.grow (w1 := w8) (Nat.le_refl _) (Nat.le_trans hB hw8s) HP8.out HGC.out.1.1 HAL.out HR3.out.1 HR3.out.2.1 HR3.out.2.2.1 HR3.out.2.2.2)
                have HNX := Lib.hid (manyK_next HM.out (x := (G.mk kx lx rx px, os2)) (a' := a') hq)
                have HLX := Lib.hid (geomR_len l deep _ _ _ _ _ _ hq)
                go_wp2
                go_roundw
                · have hfl : os ++ [lt] ++ ((acc ++ [(G.mk kx lx rx px, os2)]).map (·.2)).flatten = os ++ [lt] ++ (acc.map (·.2)).flatten ++ os2 := by simp
                  refine ⟨k + 1, hkn, by simp, acc ++ [(G.mk kx lx rx px, os2)], a', vs ++ [.int .i64 kx, .slice D1 lx.length m1, .slice D2 rx.length m2, .slice D3 px.length m3], .slice (some ⟨g3, 0, none⟩) (k + 1) cap3, by simp [hal], ?_, ?_, ?_, ?_⟩
                  · rw [show n - (k + 1) = m by omega]; exact HNX.out
                  · rw [hfl, List.length_append]
                    have h1 := HLN.out
                    have h2 : a + os2.length ≤ a' := HLX.out
                    omega
                  · rw [hfl]; have h1 := HG.out.1; dsimp only at h1; exact h1
                  · rw [List.map_append]
                    exact parts_next HEA.out HGC.out.1.2.1 HGC.out.1.2.2 HGC.out.2 HG.out.2.1 HG.out.2.2
                · simp [intOf]; omega
          · have hke : k = n := by omega
            subst hke
            rw [Nat.sub_self] at hmk
            have HRES := Lib.hid (manyK_end hmk)
            have HGI2 := Lib.hid hgi
            have HEA := Lib.hid hea
            clear hmk hgi hea hlen
            go_wp2
            go_meet
            case rel =>
              refine ⟨.mk kd [] [] (acc.map (·.1)), a, lt :: (acc.map (·.2)).flatten, .slice none 0 0, .slice none 0 0, sv, by rw [HGE.out, HRES.out]; rfl, ?_, by simpa using HGI2.out.box, by simpa using HGI2.out.par, HK8.out.trans HGI2.out.keep, HGI2.out.below⟩
              have hol := HGI2.out.ownl
              rw [← hal, ← List.length_map (f := fun x : G × List Bool => x.1)] at hol
              refine ⟨?_, _, _, _, _, vs, rfl, OwnL.nil _ _ _ _, hol⟩
              simp only [IsG]
              exact ⟨_, _, _, rfl, ⟨by simp, Sl.nil _ _⟩, ⟨[], Sl.nil _ _, .nil⟩, vs, by rw [List.length_map, hal]; exact HGI2.out.sl (by omega), HEA.out.mono fun b _ hb => hb.1⟩
  case rest =>
    obtain ⟨x, a, os', x1, x2, x3, hgr, hig, hbox, hp, hk, hb⟩ := hcut
    have hz := (hk _ HZ.out.2.1).1.trans HZ.out.1
    have HE := Lib.hid (fun x0 x1 x2 x3 => par_end HP0.out (HZ.out.2.2.trans hk) hp (Nat.le_refl _) hB hb (hk _ HZ.out.2.1).2 hz x0 x1 x2 x3 _ rfl)
    have hig2 := hig.1
    obtain ⟨xk, xl, xr, xp⟩ := x
    simp only [IsG] at hig2
    obtain ⟨y1, y2, y3, hys, ⟨_, D1, m1, hy1, _⟩, ⟨_, ⟨D2, m2, hy2, _⟩, _⟩, _, ⟨D3, m3, hy3, _⟩, _⟩ := hig2
    simp only [List.cons.injEq, and_true] at hys
    obtain ⟨hyk, rfl, rfl, rfl⟩ := hys
    subst hy1 hy2 hy3
    have HR := Lib.hid (And.intro hgr (And.intro hig (And.intro hp (And.intro (HZ.out.2.2.trans hk) hb))))
    have d0 := cell_row (cs := [_, _, _, _]) (j := 0) hbox rfl
    have d1 := cell_row (cs := [_, _, _, _]) (j := 1) hbox rfl
    have d2 := cell_row (cs := [_, _, _, _]) (j := 2) hbox rfl
    have d3 := cell_row (cs := [_, _, _, _]) (j := 3) hbox rfl
    have f0 := frozen_row (cs := [_, _, _, _]) hz 0
    have f1 := frozen_row (cs := [_, _, _, _]) hz 1
    have f2 := frozen_row (cs := [_, _, _, _]) hz 2
    have f3 := frozen_row (cs := [_, _, _, _]) hz 3
    have z0 := cell_row (cs := [_, _, _, _]) (j := 0) hz rfl
    have z1 := cell_row (cs := [_, _, _, _]) (j := 1) hz rfl
    have z2 := cell_row (cs := [_, _, _, _]) (j := 2) hz rfl
    have z3 := cell_row (cs := [_, _, _, _]) (j := 3) hz rfl
    clear hgr hig hp hk hb hz hbox
    go_wp2
    obtain ⟨q1, q2, q3, q4, q5⟩ := HE.out (.int .i64 (kd : Int)) (.slice D1 xl.length m1) (.slice D2 xr.length m2) (.slice D3 xp.length m3)
    refine bodyPost_ret (v := .agg #[.int .i64 kd, .slice D1 xl.length m1, .slice D2 xr.length m2, .slice D3 xp.length m3]) ?_ rfl ?_
    · refine results_cell_row (p := 6) (ty := 51) Tryd.results110 _ _ w.heap.size _ _ _ _ ?_ q4 Tryd.underlying51 rfl Tryd.infoG4
      rfl
    refine ⟨q3, ?_⟩
    rw [HR.out.1]
    exact ⟨_, rfl, ⟨_, rfl, q5 _ _ _ hw8s HR.out.2.1⟩, q1, q2⟩
end Go.Proofs.YtlffgepnhhnadaaDoor.Pl
