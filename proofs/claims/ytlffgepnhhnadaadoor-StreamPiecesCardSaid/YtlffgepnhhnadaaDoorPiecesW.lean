/- plumblaw27.StreamPieces, walked. -/
import Derived.Test.YtlffgepnhhnadaaDoorReadW
namespace Go.Proofs.YtlffgepnhhnadaaDoor.Pl
open Go.RowKit

set_option maxRecDepth 100000 in
set_option maxHeartbeats 2000000 in
theorem pieces_any {ok : Nat → Prop} {v cv bvv : Value} {l0 : List Shp} {cuts : List Int} {bh : List UInt8} (w : World) (hv : Shps w v l0) (hbh : Bytes ok w bvv bh) (hcu : Ints w cv cuts) (hg : ErrT w) :
    Calls Tryd.prog 8 #[v, bvv, cv] w fun e w' => e = .returned (.bool true) ∧ Below w.heap.size w w' := by
  have HFR := Lib.hid (framed_any w hv)
  have hok : ∀ s ∈ l0.take 30, s.ok := fun s hs => hv.2 s (List.mem_of_mem_take hs)
  have hll : (l0.take 30).length ≤ 30 := by rw [List.length_take]; exact Nat.min_le_left _ _
  have HV := Lib.hid (And.intro hbh hcu)
  clear hv hbh hcu
  generalize l0.take 30 = l at *
  have hw0 : 0 < w.heap.size := lt_of_cell hg
  have hfl := flat_len l hok
  have HOK := Lib.hid (And.intro hok hg)
  clear hok hg
  go_enter Tryd.func8, Tryd.ntmps8
  go_wp2_with fail
  refine HFR.out.mono ?_
  rintro e w1 ⟨tv, rv, vs, rs, rfl, hU⟩
  obtain ⟨RA, rc, rfl, hrc, _⟩ := Sl.of_own hU.rsl (by omega)
  have hs1 := hU.below.size
  have HAL := Lib.hid (alive_any w1 (HOK.out.2.below hU.below))
  have HU := Lib.hid hU
  clear hU
  go_wp2_with fail
  refine HAL.out.mono ?_
  rintro e w2 ⟨rfl, hb2⟩
  have hs2 := hb2.size
  have HJ := Lib.hid (joined_any (ok2 := fun _ => True) w2 ((Sl.of_own HU.out.rsl (by omega)).keeps (below_keeps hb2 _)) (bs := l.map Shp.bytes) (by simp) (recs_bytes HU.out.rbs HOK.out.1 hb2) (by omega))
  have H2 := Lib.hid (HU.out.below.trans (hb2.mono hs1))
  have HFS := Lib.hid (feed_shapes l HOK.out.1)
  generalize (l.map Shp.bytes).flatten = BB at *
  clear hb2 HAL HFR
  go_wp2_with fail
  refine HJ.out.mono ?_
  rintro e w3 ⟨r3, rfl, ho3, hb3⟩
  have hs3 := hb3.size
  have HCU := Lib.hid (cut_any 3000 w3 (HV.out.1.keepB (H2.out.trans (hb3.mono H2.out.size))))
  have hlt : (bh.take (3000 : Int).toNat).length ≤ 3000 := by rw [List.length_take]; exact Nat.min_le_left _ _
  have H3 := Lib.hid (And.intro ho3 (H2.out.trans (hb3.mono H2.out.size)))
  generalize bh.take (3000 : Int).toNat = lt at *
  clear ho3 hb3 HJ
  go_wp2_with fail
  refine HCU.out.mono ?_
  rintro e w4 ⟨r4, rfl, ho4, hb4⟩
  have hs4 := hb4.size
  have H4 := Lib.hid (And.intro (H3.out.1.under hb4) (And.intro ho4 (H3.out.2.trans (hb4.mono H3.out.2.size))))
  clear ho4 hb4 HCU
  go_wp2_with (first
    | (at_builtin
       go_must (
       refine (list_append_bs rfl (.tmp 35) (.tmp 37) rfl r3 r4 (by rfl) (by rfl) H4.out.1 (H4.out.2.1.any (by omega)) (by omega) (by omega) ?_)
       intro r5 w5 ho5 hgr5 hg5
       have hb5 := H4.out.2.2.grown hgr5 H4.out.2.2.size (fun k e => by have := (World.ownsRow.lt H4.out.1 k e).1; omega)
       have H5 := Lib.hid (And.intro ho5 hb5)
       have HRD := Lib.hid (read_any (cs := cuts) 256 w5 (ho5.any (by rw [List.length_append]; omega)) (HV.out.2.keeps (below_keeps hb5 _)) (by rw [List.length_append]; omega) (HOK.out.2.below hb5))
       clear ho5 hgr5 hg5 hb5))
    | fail)
  refine HRD.out.mono ?_
  rintro e w6 ⟨xv, ev, rfl, hQ⟩
  have hb6 := hQ.below
  have hs6 := hb6.size
  have HR2 := Lib.hid (read_any (cs := []) (cv := .slice none 0 0) 256 w6 ((H5.out.1.under hb6).any (by rw [List.length_append]; omega)) (Sl.nil _ _) (by rw [List.length_append]; omega) ((HOK.out.2.below H5.out.2).below hb6))
  have H6 := Lib.hid (And.intro hQ (And.intro (H5.out.2.trans (hb6.mono H5.out.2.size)) ((HOK.out.2.below H5.out.2).below hb6)))
  clear hQ hb6 HRD
  go_wp2_with fail
  refine HR2.out.mono ?_
  rintro e w7 ⟨yv, fv, rfl, hQ2⟩
  have hb7 := hQ2.below
  have hs7 := hb7.size
  obtain ⟨l1, bp1, hR1, hl1⟩ := H6.out.1.under hb7
  obtain ⟨l2, bp2, hR2, hl2⟩ := hQ2
  have hlen := feed_len 256 (BB ++ lt).length (BB ++ lt) (Nat.le_refl _)
  have hge : l.length ≤ (feed 256 (BB ++ lt)).1.length := by rw [HFS.out lt]; simp
  have hbl : (BB ++ lt).length ≤ 200000 := by rw [List.length_append]; omega
  obtain ⟨fs, hfs⟩ : ∃ fs, feed 256 (BB ++ lt) = fs := ⟨_, rfl⟩
  rw [hfs] at hR1 hl1 hR2 hl2 hlen hge
  obtain ⟨gs, n, rest, er⟩ := fs
  simp only at hR1 hl1 hR2 hl2 hlen hge
  obtain ⟨vs1, ho1, hg1⟩ := hR1.own
  obtain ⟨vs2, ho2, hg2⟩ := hR2.own
  obtain ⟨XA, xc, hxe, _⟩ := Sl.of_own ho1 (by omega)
  subst hxe
  have HEQ := Lib.hid (equal_any w7 ((Sl.of_own ho1 (by omega)).mono fun _ _ _ => trivial) (hg1.mono (ok' := fun _ => True) fun _ _ _ => trivial) ((Sl.of_own ho2 (by omega)).mono fun _ _ _ => trivial) (hg2.mono (ok' := fun _ => True) fun _ _ _ => trivial))
  have hg7 := H6.out.2.2.below hb7
  have HG7 := Lib.hid hg7
  have HCE := Lib.hid (fun W (h : Below w7.heap.size w7 W) => code_any _ ev W (hg7.below h) (hR1.err.keeps (below_keeps h _)))
  have HCF := Lib.hid (fun W (h : Below w7.heap.size w7 W) => code_any _ fv W (hg7.below h) (hR2.err.keeps (below_keeps h _)))
  have HPE := Lib.hid (fun W (h : Below w7.heap.size w7 W) => place_of _ ev W (hg7.below h) (hR1.err.keeps (below_keeps h _)))
  have HPF := Lib.hid (fun W (h : Below w7.heap.size w7 W) => place_of _ fv W (hg7.below h) (hR2.err.keeps (below_keeps h _)))
  have HC1 := Lib.hid (fun W (h : Below w7.heap.size w7 W) => Count_any W (hR1.st.below h))
  have HC2 := Lib.hid (fun W (h : Below w7.heap.size w7 W) => Count_any W (hR2.st.below h))
  have HW1 := Lib.hid (fun W (h : Below w7.heap.size w7 W) => Waiting_any W (hR1.st.below h))
  have HW2 := Lib.hid (fun W (h : Below w7.heap.size w7 W) => Waiting_any W (hR2.st.below h))
  have H7 := Lib.hid (And.intro hR1 (And.intro hR2 (And.intro hl1 (And.intro hl2 (H6.out.2.1.trans (hb7.mono H6.out.2.1.size))))))
  have hge2 : ¬ (gs.length : Int) < (l.length : Int) := by omega
  have hbe : ((gs.length : Int) != (gs.length : Int)) = false := by simp
  clear hb7 ho1 hg1 ho2 hg2 hg7 hfs HR2
  go_wp2_with fail
  refine HEQ.out.mono ?_
  rintro e w8 ⟨rfl, hb8⟩
  have HB8 := Lib.hid hb8
  clear hb8 HEQ
  go_wp2_with fail
  refine (HCE.out _ HB8.out).mono ?_
  rintro e w9 ⟨rfl, hb9⟩
  have HB9 := Lib.hid (HB8.out.trans (hb9.mono HB8.out.size))
  clear hb9
  go_wp2_with fail
  refine (HCF.out _ HB9.out).mono ?_
  rintro e w10 ⟨rfl, hb10⟩
  have HB10 := Lib.hid (HB9.out.trans (hb10.mono HB9.out.size))
  have hce : ((codeOf (errAt n er) : Int) != codeOf (errAt n er)) = false := by simp
  clear hb10
  go_wp2_with fail
  refine (HPE.out _ HB10.out).mono ?_
  rintro e w11 ⟨rfl, hb11⟩
  have HB11 := Lib.hid (HB10.out.trans (hb11.mono HB10.out.size))
  clear hb11
  go_wp2_with fail
  refine (HPF.out _ HB11.out).mono ?_
  rintro e w12 ⟨rfl, hb12⟩
  have HB12 := Lib.hid (HB11.out.trans (hb12.mono HB11.out.size))
  have hpe : ((placeOf (errAt n er) : Int) != placeOf (errAt n er)) = false := by simp
  clear hb12
  go_wp2_with fail
  refine (HC1.out _ HB12.out).mono ?_
  rintro e w' ⟨rfl, rfl⟩
  go_wp2_with fail
  refine (HC2.out _ HB12.out).mono ?_
  rintro e w' ⟨rfl, rfl⟩
  go_wp2_with fail
  refine (HC1.out _ HB12.out).mono ?_
  rintro e w' ⟨rfl, rfl⟩
  go_wp2_with fail
  refine (HC1.out _ HB12.out).mono ?_
  rintro e w' ⟨rfl, rfl⟩
  have HBW := Lib.hid (H7.out.2.2.2.2.trans (HB12.out.mono H7.out.2.2.2.2.size))
  cases er with
  | none =>
    have he1 : ev = .nilIface := H7.out.1.err
    have he2 : fv = .nilIface := H7.out.2.1.err
    have hq1 := H7.out.2.2.1 rfl
    have hq2 := H7.out.2.2.2.1 rfl
    subst he1 he2 hq1 hq2
    clear HCE HCF HPE HPF
    go_wp2_with fail
    refine (HW1.out _ HB12.out).mono ?_
    rintro e w' ⟨rfl, rfl⟩
    go_wp2_with fail
    refine (HW2.out _ HB12.out).mono ?_
    rintro e w' ⟨rfl, rfl⟩
    go_wp2_with fail
    go_ret
    exact ⟨ret_bool (by simp), HBW.out⟩
  | some x =>
    obtain ⟨x1, x2⟩ := x
    obtain ⟨eb, he1, _⟩ := H7.out.1.err
    subst he1
    obtain ⟨fb, hbp, _, hfb⟩ := H7.out.1.bp
    subst hbp
    have HBR := Lib.hid (fun pv W (h : Below w7.heap.size w7 W) => Feed_broken pv W (H7.out.1.st.below h) ((h.cell (p := ⟨fb, 0, none⟩) (lt_of_cell hfb)).trans hfb))
    have hbz : ((0 : Int) == 0) = true := rfl
    clear HCE HCF HPF hfb
    simp only [errAt, placeOf] at HPE hpe hce
    obtain ⟨p, hp⟩ : ∃ p, wrap64 (x1 + (n : Int)) = p := ⟨_, rfl⟩
    rw [hp] at HPE HBR
    clear hp hpe hce
    go_wp2_with fail
    obtain ⟨w13, hw13⟩ : ∃ w13, w13 = w12.alloc (.cells #[.int .u8 1, .int .u8 2, .int .u8 3] 5) := ⟨_, rfl⟩
    have hb13 : Below w12.heap.size w12 w13 := by rw [hw13]; exact (Below.refl _ _).alloc (Nat.le_refl _) _
    have HB13 := Lib.hid (HB12.out.trans (hb13.mono HB12.out.size))
    rw [← hw13]
    clear hw13 hb13
    refine (HBR.out _ _ HB13.out).mono ?_
    rintro e w14 ⟨e1, rfl, hb14, her1⟩
    have HB14 := Lib.hid (HB13.out.trans (hb14.mono HB13.out.size))
    have HE1 := Lib.hid her1
    clear hb14 her1
    go_wp2_with fail
    refine (HW1.out _ HB14.out).mono ?_
    rintro e w' ⟨rfl, rfl⟩
    go_wp2_with fail
    refine (HBR.out _ _ HB14.out).mono ?_
    rintro e w15 ⟨e2, rfl, hb15, her2⟩
    have HB15 := Lib.hid (HB14.out.trans (hb15.mono HB14.out.size))
    have HE2 := Lib.hid (And.intro (HE1.out.keeps (below_keeps hb15 _)) her2)
    clear hb15 her2
    go_wp2_with fail
    refine (HPE.out _ HB15.out).mono ?_
    rintro e w16 ⟨rfl, hb16⟩
    have HB16 := Lib.hid (HB15.out.trans (hb16.mono HB15.out.size))
    have HT1 := Lib.hid (told_any (some (p, 272)) e1 272 p w16 (HG7.out.below HB16.out) (HE2.out.1.keeps (below_keeps hb16 _)))
    have HE3 := Lib.hid (HE2.out.2.keeps (below_keeps hb16 _))
    rw [show toldB (some (p, 272)) 272 p = true by simp [toldB]] at HT1
    clear hb16
    go_wp2_with fail
    refine HT1.out.mono ?_
    rintro e w17 ⟨rfl, hb17⟩
    have HB17 := Lib.hid (HB16.out.trans (hb17.mono HB16.out.size))
    have HE4 := Lib.hid (HE3.out.keeps (below_keeps hb17 _))
    clear hb17
    go_wp2_with fail
    refine (HPE.out _ HB17.out).mono ?_
    rintro e w18 ⟨rfl, hb18⟩
    have HB18 := Lib.hid (HB17.out.trans (hb18.mono HB17.out.size))
    have HT2 := Lib.hid (told_any (some (p, 272)) e2 272 p w18 (HG7.out.below HB18.out) (HE4.out.keeps (below_keeps hb18 _)))
    rw [show toldB (some (p, 272)) 272 p = true by simp [toldB]] at HT2
    clear hb18
    go_wp2_with fail
    refine HT2.out.mono ?_
    rintro e w19 ⟨rfl, hb19⟩
    have HB19 := Lib.hid (HB18.out.trans (hb19.mono HB18.out.size))
    clear hb19
    go_wp2_with fail
    refine (HW1.out _ HB19.out).mono ?_
    rintro e w' ⟨rfl, rfl⟩
    go_wp2_with fail
    refine (HC1.out _ HB19.out).mono ?_
    rintro e w' ⟨rfl, rfl⟩
    go_wp2_with fail
    go_ret
    exact ⟨ret_bool (by simp), H7.out.2.2.2.2.trans (HB19.out.mono H7.out.2.2.2.2.size)⟩
end Go.Proofs.YtlffgepnhhnadaaDoor.Pl
