/- plumblaw27.StreamHurt, walked. -/
import Derived.Test.YtlffgepnhhnadaaDoorApp
import Derived.Test.YtlffgepnhhnadaaDoorShape
import Derived.Deep.RegionHeld3
import Derived.Deep.DeepMust
namespace Go.Proofs.YtlffgepnhhnadaaDoor.Pl
open Go.RowKit

/-- Frame of a shape's tree -/
theorem frame_made {ok : Nat → Prop} {s : Shp} {cs : List Value} (w : World) (hs : s.ok) (hg : IsG ok w s.made cs) :
    Calls Tryd.prog 34 #[.agg cs.toArray, .bool s.lt] w fun e w' => ∃ r, e = .returned (.tuple #[r, .nilIface]) ∧ OwnB w.heap.size w' r s.bytes ∧ Below w.heap.size w w' := by
  have hw := made_weight s
  have he := made_enc hs s.lt
  refine (Frame_any s.lt w hg (by have := depth_le s.made; omega) (small_of s.made (by omega)) (fun _ => by omega) (fun _ => by have := begun_le s.made; omega)).mono ?_
  rintro e w' ⟨r, er, rfl, hb, h⟩
  rw [made_check hs] at h
  simp only at h
  rw [if_neg (by omega)] at h
  obtain ⟨h1, rfl⟩ := h
  exact ⟨r, rfl, h1, hb⟩

theorem xor_ne (y : UInt8) (n : Nat) (h : 0 < n) (h2 : n < 256) : y ^^^ UInt8.ofNat n ≠ y := by
  intro e
  have e := congrArg UInt8.toNat e
  rw [UInt8.toNat_xor, u8_ofNat, Nat.mod_eq_of_lt h2] at e
  have e2 := congrArg (y.toNat ^^^ ·) e
  simp only [← Nat.xor_assoc, Nat.xor_self, Nat.zero_xor] at e2
  omega
theorem Bytes.keepB {ok : Nat → Prop} {w w' : World} {v : Value} {l : List UInt8} (h : Bytes ok w v l) (hb : Below w.heap.size w w') : Bytes ok w' v l := Sl.keeps h (below_keeps hb ok)
/-- a hurt record is fed -/
theorem hurt_feed {s : Shp} {F m : List UInt8} {p : Nat} {x : UInt8} (hs : s.ok) (hF : F = s.bytes ++ m) (hp : p < s.bytes.length) (hx : F[p]? ≠ some x) :
    ∃ er, feed 256 (F.set p x) = ([], 0, F.set p x, er) ∧ (8 ≤ p → er = some ((s.bytes.length : Int) - 4, 271)) ∧ (p < 4 → er = some (0, 270)) ∧ (4 ≤ p → p < 8 → er = none ∨ ∃ a c, er = some (a, c) ∧ 4 ≤ a ∧ a ≤ (F.length : Int)) := by
  have he := made_enc hs s.lt
  obtain ⟨h1, h2, h3⟩ := rec_hurt s.lt s.made (made_well hs) (by omega) m p x hp F hF.symm hx
  by_cases h8 : 8 ≤ p
  · exact ⟨_, feed_bad (h1 h8), fun _ => rfl, fun h => by omega, fun _ h => by omega⟩
  by_cases h4 : p < 4
  · exact ⟨_, feed_bad (h2 h4), fun h => by omega, fun _ => rfl, fun h => by omega⟩
  rcases h3 (by omega) (by omega) with h | ⟨a, c, h, h5, h6⟩
  · exact ⟨_, feed_wait h, fun h => by omega, fun h => by omega, fun _ _ => .inl rfl⟩
  · exact ⟨_, feed_bad h, fun h => by omega, fun h => by omega, fun _ _ => .inr ⟨a, c, rfl, h5, h6⟩⟩
theorem one_feed {s : Shp} (hs : s.ok) : feed 256 s.bytes = ([s.made], s.bytes.length, [], none) := by
  have he := made_enc hs s.lt
  have := feed_frames [(s.lt, s.made)] [] (by intro x hx; simp at hx; subst hx; exact ⟨made_well hs, by simp only; omega⟩)
  simpa [feed_nil, Shp.bytes] using this
set_option maxRecDepth 100000 in
set_option maxHeartbeats 2000000 in
theorem hurt_any {ok : Nat → Prop} {s : Shp} {vb : Value} {lb : List UInt8} (at_ mask : Int) (w : World) (hs : s.ok) (hb : Bytes ok w vb lb) (hg : ErrT w) :
    Calls Tryd.prog 9 #[.agg s.cells.toArray, .agg #[.int .i64 at_, .int .i64 mask], vb] w fun e w' => e = .returned (.bool true) ∧ Below w.heap.size w w' := by
  simp only [Shp.cells]
  obtain ⟨wa, hwa⟩ : ∃ wa, wa = (w.alloc (.cells #[.int .i64 s.k, .int .i64 s.dp, .int .i64 s.n, .int .u64 s.x, .int .u64 s.y, .bool s.lt] 54)).alloc (.cells #[.int .i64 at_, .int .i64 mask] 78) := ⟨_, rfl⟩
  have hza := alloc_size w (.cells #[.int .i64 s.k, .int .i64 s.dp, .int .i64 s.n, .int .u64 s.x, .int .u64 s.y, .bool s.lt] 54)
  have hba : Below w.heap.size w wa := by
    rw [hwa]
    have h1 := (Below.refl w.heap.size w).alloc (Nat.le_refl _) (.cells #[.int .i64 s.k, .int .i64 s.dp, .int .i64 s.n, .int .u64 s.x, .int .u64 s.y, .bool s.lt] 54)
    exact h1.alloc h1.size _
  have hsa : wa.heap.size = w.heap.size + 2 := by rw [hwa, alloc_size, alloc_size]
  have ha0 : wa.heap[w.heap.size]? = some (.cells #[.int .i64 s.k, .int .i64 s.dp, .int .i64 s.n, .int .u64 s.x, .int .u64 s.y, .bool s.lt] 54 (0, 0)) := by
    rw [hwa, alloc_old _ _ (by omega)]; exact World.alloc_heap_new _ _
  have ha1 : wa.heap[w.heap.size + 1]? = some (.cells #[.int .i64 at_, .int .i64 mask] 78 (0, 0)) := by
    rw [hwa, ← hza]; exact World.alloc_heap_new _ _
  have hlt0 := lt_of_heap ha0
  have s0 := cell_row (cs := [_, _, _, _, _, _]) (j := 0) ha0 rfl
  have s1 := cell_row (cs := [_, _, _, _, _, _]) (j := 1) ha0 rfl
  have s2 := cell_row (cs := [_, _, _, _, _, _]) (j := 2) ha0 rfl
  have s3 := cell_row (cs := [_, _, _, _, _, _]) (j := 3) ha0 rfl
  have s4 := cell_row (cs := [_, _, _, _, _, _]) (j := 4) ha0 rfl
  have s5 := cell_row (cs := [_, _, _, _, _, _]) (j := 5) ha0 rfl
  have HM := Lib.hid (made_any s wa hs)
  simp only [Shp.cells] at HM
  have HA := Lib.hid (And.intro hba (And.intro ha0 (And.intro ha1 (And.intro hb hg))))
  clear hba ha0 ha1 hb hg hza
  go_enter Tryd.func9, Tryd.ntmps9
  go_upto_region 1 with (fail)
  rw [← hwa]
  clear hwa
  go_wp2_with fail
  refine HM.out.mono ?_
  rintro e w1 ⟨cs, rfl, hG1, hb1⟩
  obtain ⟨ki, A1, n1, c1, A2, n2, c2, A3, n3, c3, rfl⟩ := geom_shape hG1
  obtain ⟨w2, hw2⟩ : ∃ w2, w2 = w1.alloc (.cells #[.int .i64 ki, .slice A1 n1 c1, .slice A2 n2 c2, .slice A3 n3 c3] 51) := ⟨_, rfl⟩
  have hb2 : Below w1.heap.size w1 w2 := by rw [hw2]; exact (Below.refl _ _).alloc (Nat.le_refl _) _
  have hx2 : w2.heap[w1.heap.size]? = some (.cells #[.int .i64 ki, .slice A1 n1 c1, .slice A2 n2 c2, .slice A3 n3 c3] 51 (0, 0)) := by rw [hw2]; exact World.alloc_heap_new _ _
  have hs1 := hb1.size
  have hs2 := hb2.size
  have hba2 : Below wa.heap.size wa w2 := hb1.trans (hb2.mono hs1)
  have g0 := cell_row (cs := [_, _, _, _]) (j := 0) hx2 rfl
  have g1 := cell_row (cs := [_, _, _, _]) (j := 1) hx2 rfl
  have g2 := cell_row (cs := [_, _, _, _]) (j := 2) hx2 rfl
  have g3 := cell_row (cs := [_, _, _, _]) (j := 3) hx2 rfl
  have s5 := (hba2.cell (p := ⟨w.heap.size, 5, none⟩) hlt0).trans s5
  have HF := Lib.hid (frame_made w2 hs (hG1.keeps (below_keeps hb2 _)))
  have HG2 := Lib.hid (And.intro (hG1.keeps (below_keeps hb2 _)) (And.intro hx2 (And.intro hba2 (lt_of_heap hx2))))
  clear hG1 hb1 hb2 hx2 hba2 HM s0 s1 s2 s3 s4
  go_upto_region 2 with (fail)
  rw [← hw2]
  clear hw2
  go_wp2_with fail
  refine HF.out.mono ?_
  rintro e w3 ⟨fr, rfl, hfr, hb3⟩
  obtain ⟨FA, fc, rfl⟩ := hfr.shape
  have hs3 := hb3.size
  have hb03 : Below w.heap.size w w3 := HA.out.1.trans ((HG2.out.2.2.1.trans (hb3.mono HG2.out.2.2.1.size)).mono HA.out.1.size)
  have HAL := Lib.hid (alive_any w3 (HA.out.2.2.2.2.below hb03))
  have H3 := Lib.hid (And.intro hfr (And.intro hb3 hb03))
  clear hfr hb3 hb03 HF g0 g1 g2 g3 s5
  go_wp2_with fail
  refine HAL.out.mono ?_
  rintro e w4 ⟨rfl, hb4⟩
  have hs4 := hb4.size
  have hN := rec_len hs
  obtain ⟨hN, hN1⟩ := hN
  obtain ⟨p, hp⟩ : ∃ p : Nat, at_ % (s.bytes.length : Int) = p := ⟨(at_ % (s.bytes.length : Int)).toNat, by have := Int.emod_nonneg at_ (show (s.bytes.length : Int) ≠ 0 by omega); omega⟩
  have hpl : p < s.bytes.length := by have := Int.emod_lt_of_pos at_ (show 0 < (s.bytes.length : Int) by omega); omega
  have hfr4 := H3.out.1.under hb4
  have hb04 := H3.out.2.2.trans (hb4.mono H3.out.2.2.size)
  have hb24 : Below w2.heap.size w2 w4 := H3.out.2.1.trans (hb4.mono H3.out.2.1.size)
  have hba4 : Below wa.heap.size wa w4 := HG2.out.2.2.1.trans (hb24.mono HG2.out.2.2.1.size)
  have h1 := (hba4.block _ (by omega)).trans HA.out.2.2.1
  have t0 := cell_row (cs := [_, _]) (j := 0) h1 rfl
  have t1 := cell_row (cs := [_, _]) (j := 1) h1 rfl
  have HI := Lib.hid (into_any at_ s.bytes.length w4 (by omega) (by omega))
  rw [hp] at HI
  have HI2 := Lib.hid (fun W => into_any mask 255 W (by omega) (by omega))
  have hb5 : Below w4.heap.size w4 (w4.alloc (.cells #[] 5)) := (Below.refl _ _).alloc (Nat.le_refl _) _
  have ho5 : OwnB w4.heap.size (w4.alloc (.cells #[] 5)) (.slice (some ⟨w4.heap.size, 0, none⟩) 0 0) [] := ⟨rfl, .inr ⟨w4.heap.size, 0, #[], rfl, Nat.le_refl _, World.alloc_heap_new _ _, Nat.le_refl _, by simp, rfl, rfl⟩⟩
  have H4 := Lib.hid (And.intro hfr4 (And.intro hb04 (And.intro hb24 (And.intro hb5 (And.intro ho5 (Bytes.keepB HA.out.2.2.2.1 hb04))))))
  have hll : (lb.take (200 : Int).toNat).length ≤ 200 := by rw [List.length_take]; exact Nat.min_le_left _ _
  have hs24 := hb24.size
  clear hb4 hfr4 hb04 hb24 hba4 hb5 ho5 h1 HAL hp
  go_wp2_with fail
  refine HI.out.mono ?_
  rintro e w' ⟨rfl, rfl⟩
  go_wp2_with (first
    | (at_builtin
       go_must (
       refine (list_append_bs rfl (.tmp 40) (.tmp 41) rfl (.slice (some ⟨w4.heap.size, 0, none⟩) 0 0) (.slice FA s.bytes.length fc) (by rfl) (by rfl) H4.out.2.2.2.2.1 ((H4.out.1.under H4.out.2.2.2.1).any (by omega)) (by simp only [List.length_nil]; omega) H4.out.2.2.2.1.size ?_)
       intro r6 w6 ho6 hgr6 hg6
       rw [List.nil_append] at ho6
       have hb46 : Below w4.heap.size w4 w6 := H4.out.2.2.2.1.grown hgr6 H4.out.2.2.2.1.size (fun k e => by simp only [Value.ownBlock, Option.some.injEq] at e; omega)
       have HR6 := Lib.hid (And.intro ho6 (And.intro hb46 (cut_any 200 w6 (H4.out.2.2.2.2.2.keepB hb46))))
       clear ho6 hgr6 hg6 hb46))
    | fail)
  refine HR6.out.2.2.mono ?_
  rintro e w7 ⟨r7, rfl, ho7, hb7⟩
  have hs46 := HR6.out.2.1.size
  have hs67 := hb7.size
  generalize hlt : lb.take (200 : Int).toNat = lt at *
  have HR7 := Lib.hid (And.intro (HR6.out.1.under hb7) (And.intro ho7 (HR6.out.2.1.trans (hb7.mono hs46))))
  clear ho7 hb7 hlt
  go_wp2_with (first
    | (at_builtin
       go_must (
       refine (list_append_bs rfl (.tmp 42) (.tmp 44) rfl r6 r7 (by rfl) (by rfl) HR7.out.1 (HR7.out.2.1.any (by omega)) (by omega) (Nat.le_trans hs46 hs67) ?_)
       intro r8 w8 ho8 hgr8 hg8
       have hb48 : Below w4.heap.size w4 w8 := HR7.out.2.2.grown hgr8 (Nat.le_trans hs46 hs67) (fun k e => (World.ownsRow.lt HR7.out.1 k e).1)
       have HR8 := Lib.hid (And.intro ho8 hb48)
       clear ho8 hgr8 hg8 hb48))
    | fail)
  obtain ⟨F, hF⟩ : ∃ F, F = s.bytes ++ lt := ⟨_, rfl⟩
  have hFl : F.length = s.bytes.length + lt.length := by rw [hF, List.length_append]
  rw [← hF] at HR8
  obtain ⟨gC, cC, rfl, hgC, hlC, hcC⟩ := HR8.out.1.form (by intro e; rw [e] at hFl; simp only [List.length_nil] at hFl; omega)
  obtain ⟨y, hy⟩ : ∃ y, F[p]? = some y := ⟨_, List.getElem?_eq_getElem (by omega)⟩
  have yc := hcC p (bv y) (by simp [hy])
  rw [addn, Nat.zero_add] at yc
  simp only [bv] at yc
  have hfz := HR8.out.1.frozen p
  have t1 := (HR8.out.2.cell (p := ⟨w.heap.size + 1, 1, none⟩) (by simp only; omega)).trans t1
  obtain ⟨q, hq⟩ : ∃ q : Nat, mask % 255 = q := ⟨(mask % 255).toNat, by omega⟩
  have hq2 : q < 255 := by omega
  rw [hq] at HI2
  have hyl := y.toNat_lt
  have hxx : bits .xor .u8 (y.toNat : Int) (IntKind.u8.wrap (1 + (q : Int))) = ((y ^^^ UInt8.ofNat (1 + q)).toNat : Int) := by
    have h1 : IntKind.u8.wrap (1 + (q : Int)) = ((1 + q : Nat) : Int) := by simp only [IntKind.wrap, IntKind.bits, IntKind.signed]; simp; omega
    rw [h1, xor8 _ _ hyl (by omega), UInt8.toNat_xor, u8_ofNat, Nat.mod_eq_of_lt (by omega)]
  have hxy : y ^^^ UInt8.ofNat (1 + q) ≠ y := xor_ne y (1 + q) (by omega) (by omega)
  generalize y ^^^ UInt8.ofNat (1 + q) = x at hxx hxy
  have HXY := Lib.hid (And.intro hF (And.intro hFl (show F[p]? ≠ some x by rw [hy]; intro e; exact hxy (Option.some.inj e).symm)))
  have hi0 : (0 : Int) ≤ (p : Int) := by omega
  have hi1 : (p : Int) < (F.length : Int) := by omega
  have hw1 : IntKind.i64.wrap (1 + (q : Int)) = 1 + (q : Int) := wrapI_small (by omega) (by omega)
  have HST := Lib.hid (HR8.out.1.stored p x)
  clear hF hFl hy hq hxy hcC t0
  go_wp2_with fail
  go_cut [] (fun W => OwnB w4.heap.size W (.slice (some ⟨gC, 0, none⟩) F.length cC) (F.set p x) ∧ Below w4.heap.size w8 W)
  case first =>
    go_region_law (
      (try go_simp)
      go_at_call 31
      refine (HI2.out _).mono ?_
      rintro e w' ⟨rfl, rfl⟩)
    all_goals
      go_wp2_with fail
      go_meet
      case rel =>
        have h := (Below.refl w4.heap.size w8).setCell (p := (⟨gC, p, none⟩ : Addr)) hgC (.int .u8 x.toNat)
        exact ⟨HST.out.1, ⟨h.os, h.tape, h.output, h.size, h.block⟩⟩
  case rest =>
    obtain ⟨hc9, hb9⟩ := hcut
    obtain ⟨w9, hw9⟩ : ∃ w9, w9 = wc := ⟨_, rfl⟩
    subst hw9
    obtain ⟨er, hfd, he8, he4, hem⟩ := hurt_feed hs HXY.out.1 hpl HXY.out.2.2
    have hb49 := HR8.out.2.trans hb9
    have hs49 := hb49.size
    have hb29 : Below w2.heap.size w2 w9 := H4.out.2.2.1.trans (hb49.mono hs24)
    have hb09 : Below w.heap.size w w9 := H4.out.2.1.trans (hb49.mono H4.out.2.1.size)
    have hfr9 := H4.out.1.under hb49
    have HN1 := Lib.hid (new_any 256 w9)
    have hgl := HG2.out.2.2.2
    have hgb := (hb29.block _ hgl).trans HG2.out.2.1
    have H9 := Lib.hid (And.intro (hc9.any (by rw [List.length_set, HXY.out.2.1]; omega)) (And.intro (hfr9.any (by omega)) (And.intro (HG2.out.1.keeps (below_keeps hb29 _)) (And.intro hgb (And.intro hb09 (HA.out.2.2.2.2.below hb09))))))
    have HE := Lib.hid (And.intro hfd (And.intro he8 (And.intro he4 hem)))
    have hw0 : 0 < w.heap.size := lt_of_cell HA.out.2.2.2.2
    have hs09 := hb09.size
    clear hc9 hb9 hfd he8 he4 hem hb49 hb29 hb09 hfr9 hgb hfz yc t1 hxx HST HI HI2 HR8 HR7 HR6 H4 H3 HG2 HA
    go_wp2_with fail
    refine HN1.out.mono ?_
    rintro e w10 ⟨rfl, hb10, hf10⟩
    have HN2 := Lib.hid (new_any 256 w10)
    have hs10 := hb10.size
    have h10l := lt_of_heap hf10
    have H10 := Lib.hid (And.intro hb10 hf10)
    clear hb10 hf10
    go_wp2_with fail
    refine HN2.out.mono ?_
    rintro e w11 ⟨rfl, hb11, hf11⟩
    have hs11 := hb11.size
    have h11l := lt_of_heap hf11
    have hb911 := H10.out.1.trans (hb11.mono hs10)
    have hf10' : FreshR w11 w9.heap.size 256 := (hb11.block _ h10l).trans H10.out.2
    have hg11 := H9.out.2.2.2.2.2.below (hb911.mono (Nat.le_refl _))
    have hlF : (F.set p x).length ≤ 4500 := by rw [List.length_set, HXY.out.2.1]; omega
    have HF1 := Lib.hid (feed_any w11 (hf10'.st (Nat.le_refl _)) (H9.out.1.keepB hb911) (by simp only [List.length_nil]; omega) (by omega) hg11 (by omega) (by omega))
    rw [List.nil_append, HE.out.1] at HF1
    have H11 := Lib.hid (And.intro hb911 (And.intro hf10' hf11))
    have hf10k := hf10'
    clear hb11 hf11 hb911 hf10' hg11 HN1 HN2
    go_wp2_with fail
    refine HF1.out.mono ?_
    rintro e w12 ⟨ov, ev, bp, vs, rfl, hU⟩
    obtain ⟨E1, hE1⟩ : ∃ E1, E1 = errAt (0 + ((0 : Nat) : Int)) er := ⟨_, rfl⟩
    have hq8 : 8 ≤ p → E1 = some ((s.bytes.length : Int) - 4, 271) := fun h => by rw [hE1, HE.out.2.1 h]; simp only [errAt]; rw [wrap_at (by omega) (by omega) (by omega) (by omega)]; simp
    have hq4 : p < 4 → E1 = some (0, 270) := fun h => by rw [hE1, HE.out.2.2.1 h]; simp [errAt, wrap64]
    have hqm : 4 ≤ p → p < 8 → E1 = none ∨ ∃ a c, E1 = some (a, c) ∧ 4 ≤ a ∧ a ≤ (F.length : Int) := fun h1 h2 => by
      rcases HE.out.2.2.2 h1 h2 with h | ⟨a, c, h, h3, h4⟩
      · exact .inl (by rw [hE1, h]; rfl)
      · have hFl := HXY.out.2.1
        exact .inr ⟨a, c, by rw [hE1, h]; simp only [errAt]; rw [wrap_at (by omega) (by omega) (by omega) (by omega)]; simp, h3, h4⟩
    have hs12 := hU.below.size
    obtain ⟨hkq, hkr⟩ := hU.keep _ (hf10k.apt h11l (show w10.heap.size ≠ w9.heap.size by omega))
    have hf12 : FreshR w12 w10.heap.size 256 := hkq.trans H11.out.2.2
    have hb912 := H11.out.1.trans hU.below
    have hsl : Sl (NewS w11 w12 w9.heap.size) w12 ov 0 vs := hU.sl
    obtain ⟨OA, oc, rfl, _⟩ := hsl
    have herr := hU.err
    rw [← hE1] at herr
    have hst := hU.st
    have HF2 := Lib.hid (feed_any w12 (hf12.st (Nat.le_refl _)) (Bytes.keepB H9.out.2.1 hb912) (by simp only [List.length_nil]; omega) (by omega) (H9.out.2.2.2.2.2.below hb912) (by omega) (by omega))
    rw [List.nil_append, one_feed hs] at HF2
    have HEQ := Lib.hid (And.intro hq8 (And.intro hq4 hqm))
    have H12 := Lib.hid (And.intro hb912 (And.intro hf12 (And.intro herr (And.intro hst hkr))))
    clear hU hE1 hq8 hq4 hqm hkq hf12 hb912 herr hst hf10k HF1
    go_wp2_with fail
    refine HF2.out.mono ?_
    rintro e w13 ⟨mv, ev2, bp2, vs2, rfl, hV⟩
    obtain rfl : ev2 = .nilIface := hV.err
    have hs13 := hV.below.size
    have hkk : ∀ b, b < w12.heap.size → b ≠ w10.heap.size → w13.heap[b]? = w12.heap[b]? := fun b h1 h2 => (hV.keep b (H12.out.2.1.apt h1 h2)).1
    have hszz : w12.heap.size ≤ w13.heap.size := hs13
    have hst13 : IsSt w9.heap.size w13 w9.heap.size 256 (F.set p x) (0 + ((0 : Nat) : Int)) (0 + (([] : List G).length : Int)) bp := by
      refine H12.out.2.2.2.1.kept hszz (hkk _ (by omega) (by omega)) fun v g hv hg => ?_
      obtain ⟨wv, m1, m2⟩ := H12.out.2.2.2.1.mem
      have h1 := cell_row (cs := [_, _, _, _, _]) (j := 1) m1 rfl
      rw [h1] at hv
      cases hv
      exact hkk g (m2.own g hg).2.2 (fun e => by subst e; exact H12.out.2.2.2.2.2.2 _ h1 hg)
    have herr13 : IsErr (NewS w11 w12 w9.heap.size) w13 ev E1 := H12.out.2.2.1.keeps fun b o hb ho _ => by rw [hkk b hb.1.1 (by have := hb.2; omega)]; exact ho
    have hb913 : Below w9.heap.size w9 w13 := H12.out.1.trans (hV.below.mono hs10)
    have hsl2 : Sl (NewS w12 w13 w10.heap.size) w13 mv 1 vs2 := hV.sl
    have hgs2 : IsGs (NewS w12 w13 w10.heap.size) w13 [s.made] vs2 := hV.gs
    obtain ⟨cx, hI, hat⟩ := IsGs.at hgs2 0 s.made rfl
    obtain ⟨i1, D1, m1, r1, D2, m2, r2, D3, m3, r3, rfl⟩ := geom_shape hI
    obtain ⟨mb, mo, mk, rfl, hk1, _, _, hml, hc⟩ := hsl2.open (by intro e; have := hat 0 _ rfl; rw [e] at this; simp at this)
    have x0 := hc _ _ (hat 0 _ rfl)
    have x1 := hc _ _ (hat 1 _ rfl)
    have x2 := hc _ _ (hat 2 _ rfl)
    have x3 := hc _ _ (hat 3 _ rfl)
    simp only [Nat.zero_mul, Nat.zero_add, Nat.add_zero] at x0 x1 x2 x3
    have hgb := (hb913.block _ (show w1.heap.size < w9.heap.size by omega)).trans H9.out.2.2.2.1
    have hgl13 := lt_of_heap hgb
    have y0 := cell_row (cs := [_, _, _, _]) (j := 0) hgb rfl
    have y1 := cell_row (cs := [_, _, _, _]) (j := 1) hgb rfl
    have y2 := cell_row (cs := [_, _, _, _]) (j := 2) hgb rfl
    have y3 := cell_row (cs := [_, _, _, _]) (j := 3) hgb rfl
    have HIJ := Lib.hid (And.intro hI (H9.out.2.2.1.keeps (below_keeps hb913 _)))
    have HEE := Lib.hid (fun W h1 h2 => Equal_same (depth s.made) s.made (NewS w12 w13 w10.heap.size) (fun b => wa.heap.size ≤ b) [.int .i64 i1, .slice D1 m1 r1, .slice D2 m2 r2, .slice D3 m3 r3] [.int .i64 ki, .slice A1 n1 c1, .slice A2 n2 c2, .slice A3 n3 c3] W (Nat.le_refl _) h1 h2)
    have HSK : Hid (∀ W : World, Below w13.heap.size w13 W → W.cell? ⟨mb, mo, none⟩ = some (.int .i64 i1) ∧ W.cell? ⟨mb, mo + 1, none⟩ = some (.slice D1 m1 r1) ∧ W.cell? ⟨mb, mo + 2, none⟩ = some (.slice D2 m2 r2) ∧ W.cell? ⟨mb, mo + 3, none⟩ = some (.slice D3 m3 r3) ∧
        W.cell? ⟨w1.heap.size, 0, none⟩ = some (.int .i64 ki) ∧ W.cell? ⟨w1.heap.size, 1, none⟩ = some (.slice A1 n1 c1) ∧ W.cell? ⟨w1.heap.size, 2, none⟩ = some (.slice A2 n2 c2) ∧ W.cell? ⟨w1.heap.size, 3, none⟩ = some (.slice A3 n3 c3)) :=
      Lib.hid fun W hW => ⟨(hW.cell (p := ⟨mb, mo, none⟩) hml).trans x0, (hW.cell (p := ⟨mb, mo + 1, none⟩) hml).trans x1, (hW.cell (p := ⟨mb, mo + 2, none⟩) hml).trans x2, (hW.cell (p := ⟨mb, mo + 3, none⟩) hml).trans x3,
        (hW.cell (p := ⟨w1.heap.size, 0, none⟩) hgl13).trans y0, (hW.cell (p := ⟨w1.heap.size, 1, none⟩) hgl13).trans y1, (hW.cell (p := ⟨w1.heap.size, 2, none⟩) hgl13).trans y2, (hW.cell (p := ⟨w1.heap.size, 3, none⟩) hgl13).trans y3⟩
    have HWT := Lib.hid (fun W (h : IsSt w9.heap.size W w9.heap.size 256 (F.set p x) (0 + ((0 : Nat) : Int)) (0 + (([] : List G).length : Int)) bp) => Waiting_any W h)
    have HCT := Lib.hid (fun W (h : IsSt w9.heap.size W w9.heap.size 256 (F.set p x) (0 + ((0 : Nat) : Int)) (0 + (([] : List G).length : Int)) bp) => Count_any W h)
    rw [List.length_set] at HWT
    rw [show ((0 : Int) + (([] : List G).length : Int)) = 0 from rfl] at HCT hst13
    have HST := Lib.hid hst13
    have H13 := Lib.hid (And.intro herr13 (And.intro (H9.out.2.2.2.2.1.trans (hb913.mono hs09)) (H9.out.2.2.2.2.2.below hb913)))
    clear hst13 herr13 hb913 hsl2 hgs2 hI hat hc x0 x1 x2 x3 y0 y1 y2 y3 hgb hkk hV HF2 hk1
    go_upto_region 15 with (fail)
    go_cut [85, 93, 98, 103, 109, 110] (fun _ _ _ _ _ x W => x = .bool false ∧ Below w13.heap.size w13 W)
    case first =>
      go_region_held3 (fun W => W.cell? ⟨mb, mo, none⟩ = some (.int .i64 i1) ∧ W.cell? ⟨mb, mo + 1, none⟩ = some (.slice D1 m1 r1) ∧ W.cell? ⟨mb, mo + 2, none⟩ = some (.slice D2 m2 r2) ∧ W.cell? ⟨mb, mo + 3, none⟩ = some (.slice D3 m3 r3) ∧
        W.cell? ⟨w1.heap.size, 0, none⟩ = some (.int .i64 ki) ∧ W.cell? ⟨w1.heap.size, 1, none⟩ = some (.slice A1 n1 c1) ∧ W.cell? ⟨w1.heap.size, 2, none⟩ = some (.slice A2 n2 c2) ∧ W.cell? ⟨w1.heap.size, 3, none⟩ = some (.slice A3 n3 c3))
        (first
          | exact HSK.out _ ⟨rfl, rfl, rfl, Nat.le_refl _, fun _ _ => rfl⟩
          | exact HSK.out _ HB14.out)
        ((first
          | (go_at_call 17
             refine (HWT.out _ HS14.out).mono ?_
             rintro e w15 ⟨rfl, rfl⟩)
          | (go_at_call 19
             refine (HCT.out _ HS14.out).mono ?_
             rintro e w15 ⟨rfl, rfl⟩)
          | (go_at_call 29
             refine (HEE.out _ (IsG.keeps (w := w13) (w' := w13.drew) (fun b o _ ho _ => ho) HIJ.out.1) (IsG.keeps (w := w13) (w' := w13.drew) (fun b o _ ho _ => ho) HIJ.out.2)).mono ?_
             rintro e w14 ⟨rfl, hb14⟩
             replace hb14 : Below w13.heap.size w13 w14 := ⟨hb14.os, hb14.tape, hb14.output, hb14.size, hb14.block⟩
             have HS14 := Lib.hid (HST.out.below hb14)
             have HB14 := Lib.hid hb14
             clear hb14)))
      all_goals
        go_wp2_with fail
        go_meet
        case rel => exact ⟨by first | rfl | simp, HB14.out⟩
    case rest =>
      obtain ⟨rfl, hb14⟩ := hcut
      obtain ⟨w14, hw14⟩ : ∃ w14, w14 = wc := ⟨_, rfl⟩
      subst hw14
      have herr := H13.out.1.keeps (below_keeps hb14 _)
      have hs14 := hb14.size
      have hbw := H13.out.2.1.trans (hb14.mono H13.out.2.1.size)
      have hgw := H13.out.2.2.below hb14
      have HTO := Lib.hid (fun code a => told_any E1 ev code a w14 hgw herr)
      have HPL := Lib.hid (fun W (h : Below w14.heap.size w14 W) => place_of E1 ev W (hgw.below h) (herr.keeps (below_keeps h _)))
      have HBW := Lib.hid hbw
      clear HIJ HEE HSK HWT HCT HST H13 hgw hbw hb14
      by_cases h8 : 8 ≤ p
      · have he := HEQ.out.1 h8
        have h8i : (8 : Int) ≤ (p : Int) := by omega
        clear herr
        go_wp2_with fail
        refine (HTO.out _ _).mono ?_
        rintro e w15 ⟨rfl, hb15⟩
        rw [he]
        have HB15 := Lib.hid (HBW.out.trans (hb15.mono HBW.out.size))
        clear hb15 he
        go_wp2_with fail
        go_ret
        exact ⟨by simp [toldB], HB15.out⟩
      by_cases h4 : p < 4
      · have he := HEQ.out.2.1 h4
        have h8i : ¬ (8 : Int) ≤ (p : Int) := by omega
        have h4i : (p : Int) < 4 := by omega
        clear herr
        go_wp2_with fail
        refine (HTO.out _ _).mono ?_
        rintro e w15 ⟨rfl, hb15⟩
        rw [he]
        have HB15 := Lib.hid (HBW.out.trans (hb15.mono HBW.out.size))
        clear hb15 he
        go_wp2_with fail
        go_ret
        exact ⟨by simp [toldB], HB15.out⟩
      have h8i : ¬ (8 : Int) ≤ (p : Int) := by omega
      have h4i : ¬ (p : Int) < 4 := by omega
      rcases HEQ.out.2.2 (by omega) (by omega) with he | ⟨a, c, he, h5, h6⟩
      · subst he
        obtain rfl : ev = .nilIface := herr
        go_wp2_with fail
        go_ret
        exact ⟨rfl, HBW.out⟩
      · subst he
        obtain ⟨eb, rfl, _⟩ := herr
        simp only [placeOf] at HPL
        have HP1 := Lib.hid (HPL.out w14 (Below.refl _ _))
        go_wp2_with fail
        refine HP1.out.mono ?_
        rintro e w15 ⟨rfl, hb15⟩
        have HP2 := Lib.hid (HPL.out w15 hb15)
        have HB15 := Lib.hid (HBW.out.trans (hb15.mono HBW.out.size))
        clear hb15
        go_wp2_with fail
        refine HP2.out.mono ?_
        rintro e w16 ⟨rfl, hb16⟩
        have HB16 := Lib.hid (HB15.out.trans (hb16.mono HB15.out.size))
        clear hb16
        go_wp2_with fail
        go_ret
        exact ⟨rfl, HB16.out⟩
end Go.Proofs.YtlffgepnhhnadaaDoor.Pl
