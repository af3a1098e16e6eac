/- plumblaw27.StreamSaved, walked. -/
import Derived.Test.YtlffgepnhhnadaaDoorMend
import Derived.Deep.RegionHeld3
namespace Go.Proofs.YtlffgepnhhnadaaDoor.Pl
open Go.RowKit

theorem set_same {l : List UInt8} {k : Nat} {x : UInt8} (h : l[k]? = some x) : l.set k x = l := by
  obtain ⟨hk, rfl⟩ := List.getElem?_eq_some_iff.1 h
  exact List.set_getElem_self hk
theorem Sl.behind {ok : Nat → Prop} {w : World} {b o c n : Nat} {cs : List Value} (h : Sl ok w (.slice (some ⟨b, o, none⟩) n c) n cs) (k e : Nat) (hk : k ≤ n) : Sl ok w (.slice (some ⟨b, o + e, none⟩) (n - k) (c - k)) (n - k) (cs.drop e) := by
  obtain ⟨A', c', hv, h1, h2, h3⟩ := h
  simp only [Value.slice.injEq, true_and] at hv
  obtain ⟨rfl, rfl⟩ := hv
  refine ⟨_, _, rfl, by omega, by omega, ?_⟩
  rcases h3 with rfl | ⟨b', o', hA, hb, hc⟩
  · left; simp
  · right
    simp only [Option.some.injEq, Addr.mk.injEq, and_true] at hA
    obtain ⟨rfl, rfl⟩ := hA
    refine ⟨_, _, rfl, hb, fun i c hi => ?_⟩
    rw [List.getElem?_drop] at hi
    have := hc _ c hi
    rw [Nat.add_assoc]; exact this
theorem Sl.behind0 {ok : Nat → Prop} {w : World} {A : Option Addr} {c n : Nat} {cs : List Value} (h : Sl ok w (.slice A n c) n cs) (hc : c = 1) (hn : 1 ≤ n) (e : Nat) (hl : cs.length = e * n) : Sl ok w (.slice A (n - 1) 0) (n - 1) (cs.drop e) := by
  obtain ⟨A', c', hv, h1, h2, h3⟩ := h
  simp only [Value.slice.injEq, true_and] at hv
  obtain ⟨rfl, rfl⟩ := hv
  have h0 : n = 1 := by omega
  subst h0
  exact ⟨_, _, rfl, by omega, by omega, .inl (List.drop_eq_nil_of_le (by omega))⟩
theorem Each.behind {α : Type} {R : Value → α → Prop} {vs : List Value} {xs : List α} (h : Each R vs xs) : Each R (vs.drop 1) (xs.drop 1) := by
  cases h with
  | nil => exact .nil
  | cons _ h => simpa using h
theorem IsGs.behind {ok : Nat → Prop} {w : World} {gs : List G} {cs : List Value} (h : IsGs ok w gs cs) : IsGs ok w (gs.drop 1) (cs.drop 4) := by
  cases gs with
  | nil => simp only [IsGs] at h; subst h; simp [IsGs]
  | cons g gs =>
    simp only [IsGs] at h
    obtain ⟨c, d, rfl, h1, h2⟩ := h
    have h4 := h1.four
    rw [← h4, List.drop_left]; simpa using h2
theorem flat_tail {l : List Shp} {s : Shp} (h : l[0]? = some s) : (l.map Shp.bytes).flatten.length = s.bytes.length + ((l.drop 1).map Shp.bytes).flatten.length := by
  cases l with
  | nil => simp at h
  | cons a t => simp at h; subst h; simp
set_option maxRecDepth 100000 in
set_option maxHeartbeats 4000000 in
theorem saved_any {ok : Nat → Prop} {v bvv : Value} {l0 : List Shp} {bh : List UInt8} (at_ mask : Int) (w : World) (hv : Shps w v l0) (hbh : Bytes ok w bvv bh) (hg : ErrT w) :
    Calls Tryd.prog 11 #[v, bvv, .agg #[.int .i64 at_, .int .i64 mask]] w fun e w' => e = .returned (.bool true) ∧ Below w.heap.size w w' := by
  obtain ⟨wa, hwa⟩ : ∃ wa, wa = w.alloc (.cells #[.int .i64 at_, .int .i64 mask] 78) := ⟨_, rfl⟩
  have hba : Below w.heap.size w wa := by rw [hwa]; exact (Below.refl _ _).alloc (Nat.le_refl _) _
  have ha1 : wa.heap[w.heap.size]? = some (.cells #[.int .i64 at_, .int .i64 mask] 78 (0, 0)) := by rw [hwa]; exact World.alloc_heap_new _ _
  have hva : Shps wa v l0 := ⟨hv.1.keeps (below_keeps hba _), hv.2⟩
  have HFR := Lib.hid (framed_any wa hva)
  have hok : ∀ s ∈ l0.take 30, s.ok := fun s hs => hv.2 s (List.mem_of_mem_take hs)
  have hll : (l0.take 30).length ≤ 30 := by rw [List.length_take]; exact Nat.min_le_left _ _
  have HV := Lib.hid (And.intro (hbh.keepB hba) (And.intro ha1 hba))
  have hsa := hba.size
  have hla := lt_of_heap ha1
  have hga := hg.below hba
  have hw0 : 0 < w.heap.size := lt_of_cell hg
  clear hv hbh hva hba ha1 hg
  generalize l0.take 30 = l at *
  have hfl := flat_len l hok
  have HOK := Lib.hid (And.intro hok hga)
  clear hok hga
  go_enter Tryd.func11, Tryd.ntmps11
  go_upto_region 1 with (fail)
  rw [← hwa]
  clear hwa
  go_wp2_with fail
  refine HFR.out.mono ?_
  rintro e w1 ⟨tv, rv, vs, rs, rfl, hU⟩
  obtain ⟨TA, tc, rfl, htc, _⟩ := Sl.of_own hU.tsl (by omega)
  obtain ⟨RA, rc, rfl, hrc, _⟩ := Sl.of_own hU.rsl (by omega)
  have hs1 := hU.below.size
  have HAL := Lib.hid (alive_any w1 (HOK.out.2.below hU.below))
  have HU := Lib.hid hU
  clear hU
  go_wp2_with fail
  refine HAL.out.mono ?_
  rintro e w2 ⟨rfl, hb2⟩
  have hs2 := hb2.size
  have hb02 : Below wa.heap.size wa w2 := HU.out.below.trans (hb2.mono hs1)
  have HCU := Lib.hid (cut_any 20 w2 (HV.out.1.keepB hb02))
  have hlg : (bh.take (20 : Int).toNat).length ≤ 20 := by rw [List.length_take]; exact Nat.min_le_left _ _
  have H2 := Lib.hid (And.intro hb02 hb2)
  clear hb2 hb02 HAL HFR
  generalize bh.take (20 : Int).toNat = g0 at *
  go_wp2_with fail
  refine HCU.out.mono ?_
  rintro e w3 ⟨gv, rfl, ho3, hb3⟩
  obtain ⟨GA, gc, rfl⟩ := ho3.shape
  have hs3 := hb3.size
  have H3 := Lib.hid (And.intro ho3 hb3)
  clear ho3 hb3 HCU
  go_wp2_with fail
  go_loopw [11] (fun i W => ∃ k : Nat, k ≤ g0.length ∧ i = .int .i64 k ∧ Hid (OwnB w2.heap.size W (.slice GA g0.length gc) ((g0.take k).map fixB ++ g0.drop k) ∧ Below w2.heap.size w2 W)) (fun i _ => g0.length - (intOf i).toNat)
  case atStart => exact ⟨0, Nat.zero_le _, rfl, Lib.hid ⟨by simpa using H3.out.1, H3.out.2⟩⟩
  case round =>
    obtain ⟨k, hk, rfl, HS⟩ := hrel
    have hsr := HS.out.2.size
    by_cases hkl : k < g0.length
    · obtain ⟨x, hx⟩ : ∃ x, g0[k]? = some x := ⟨_, List.getElem?_eq_getElem hkl⟩
      have hfa := fix_at hx
      obtain ⟨gb, gc', hv1, hgb, hl1, hc1⟩ := HS.out.1.form (by intro e; rw [e] at hfa; simp at hfa)
      simp only [Value.slice.injEq] at hv1
      obtain ⟨rfl, hdum, rfl⟩ := hv1
      clear hdum
      have cc := hc1 k (bv x) (by rw [List.getElem?_map, hfa]; rfl)
      rw [addn, Nat.zero_add] at cc
      simp only [bv] at cc
      have hfz := HS.out.1.frozen k
      have HST := Lib.hid (HS.out.1.stored k (fixB x))
      have HFX := Lib.hid (fix_step hx)
      have hki : (k : Int) < (g0.length : Int) := by omega
      have hki0 : (0 : Int) ≤ (k : Int) := by omega
      clear hc1 hfa
      by_cases h80 : x = 80
      · have hb1 : ((x.toNat : Int) == 80) = true := by rw [h80]; rfl
        have hb2 : fixB x = 81 := by rw [h80]; rfl
        have HB2 := Lib.hid hb2
        clear h80 hb2
        go_wp2_with fail
        go_roundw
        · refine ⟨k + 1, hkl, by simp, Lib.hid ⟨?_, HS.out.2.setCell hgb _⟩⟩
          rw [← HFX.out, HB2.out]
          have h := HST.out.1
          rw [HB2.out] at h
          exact h
        · simp [intOf]; omega
      · have hb1 : ((x.toNat : Int) == 80) = false := by
          rw [beq_eq_false_iff_ne]; intro e
          exact h80 (UInt8.toNat_inj.1 (by have : ((80 : UInt8)).toNat = 80 := rfl; omega))
        have hb2 : fixB x = x := by unfold fixB; rw [if_neg h80]
        have HB2 := Lib.hid hb2
        clear h80 hb2
        go_wp2_with fail
        go_roundw
        · refine ⟨k + 1, hkl, by simp, Lib.hid ⟨?_, HS.out.2⟩⟩
          rw [← HFX.out, HB2.out, set_same (fix_at hx)]
          exact HS.out.1
        · simp [intOf]; omega
    · have hke : k = g0.length := by omega
      subst hke
      have hgp := HS.out.1
      rw [List.take_of_length_le (Nat.le_refl _), List.drop_length, List.append_nil] at hgp
      obtain ⟨gap, hgap⟩ : ∃ gap, gap = g0.map fixB := ⟨_, rfl⟩
      have hgl : gap.length = g0.length := by rw [hgap, List.length_map]
      have hg80 : ∀ x ∈ gap, x ≠ 80 := by
        intro x hx
        rw [hgap] at hx
        obtain ⟨y, _, rfl⟩ := List.mem_map.1 hx
        exact fixB_ne y
      rw [← hgap] at hgp
      have hki : ¬ (g0.length : Int) < (g0.length : Int) := by omega
      obtain ⟨w4, hw4⟩ : ∃ w4, w4 = wr := ⟨_, rfl⟩
      subst hw4
      have hb14 : Below w1.heap.size w1 w4 := H2.out.2.trans (HS.out.2.mono hs2)
      have hba4 : Below wa.heap.size wa w4 := H2.out.1.trans (HS.out.2.mono H2.out.1.size)
      have HGP := Lib.hid (And.intro hgp (And.intro hb14 (And.intro hba4 (And.intro hgl hg80))))
      have hsr2 : w1.heap.size ≤ w4.heap.size := Nat.le_trans hs2 hsr
      have hgl2 : gap.length ≤ 20 := by omega
      have hbn := between_len (gap := gap) l HOK.out.1
      have HBN := Lib.hid hbn
      clear hgp hgl hg80 hgap HS H3 hb14 hba4 hbn
      go_wp2_with fail
      go_loopw [13, 12] (fun i b W => ∃ k : Nat, k ≤ l.length ∧ i = .int .i64 k ∧ Hid (OwnB w4.heap.size W b (between gap (l.take k)) ∧ Below w4.heap.size w4 W)) (fun i _ _ => l.length - (intOf i).toNat)
      case atStart => exact ⟨0, Nat.zero_le _, rfl, Lib.hid ⟨⟨rfl, .inl ⟨rfl, rfl⟩⟩, Below.refl _ _⟩⟩
      case round =>
        obtain ⟨k, hk, rfl, HS⟩ := hrel
        have hsr3 := HS.out.2.size
        by_cases hkl : k < l.length
        · obtain ⟨s, hs⟩ : ∃ s, l[k]? = some s := ⟨_, List.getElem?_eq_getElem hkl⟩
          have hsk : s.ok := HOK.out.1 s (List.mem_of_getElem? hs)
          obtain ⟨rx, hrx, hrb⟩ := HU.out.rbs.at k s.bytes (by simp [hs])
          obtain ⟨rb, ro, rk, hre, _, _, _, hrbl, hrcc⟩ := (Sl.of_own HU.out.rsl (by omega)).open (by intro e; rw [e] at hrx; simp at hrx)
          simp only [Value.slice.injEq, true_and] at hre
          obtain ⟨rfl, rfl⟩ := hre
          have z0 := hrcc k rx hrx
          obtain ⟨XA, xc, rfl⟩ := hrb.1.shape
          have hs12 := (rec_len hsk).2
          have HREC := Lib.hid (fun W (h : Below w4.heap.size w4 W) => (hrb.1.under (HGP.out.2.1.trans (h.mono hsr2))).any (by omega))
          have HGB := Lib.hid (fun W (h : Below w4.heap.size w4 W) => (HGP.out.1.under h).any (by rw [HGP.out.2.2.2.1]; omega))
          have HSK : Hid (∀ W, Below w4.heap.size w4 W → W.cell? ⟨rb, ro + k, none⟩ = some (.slice XA s.bytes.length xc)) := Lib.hid fun W h => ((HGP.out.2.1.trans (h.mono hsr2)).cell (p := ⟨rb, ro + k, none⟩) hrbl).trans z0
          have HNX := Lib.hid (between_next (gap := gap) hs)
          have hbl1 := between_len (gap := gap) (l.take k) (fun s hs => HOK.out.1 s (List.mem_of_mem_take hs))
          have hbl2 : (between gap (l.take k)).length ≤ 130000 := by
            rw [List.length_take, Nat.min_eq_left hk] at hbl1
            have : (gap.length + 4012) * k ≤ 4032 * 30 := Nat.mul_le_mul (by omega) (by omega)
            omega
          have hki2 : (k : Int) < (l.length : Int) := by omega
          have hbd : Below w4.heap.size w4 wr.drew := ⟨HS.out.2.os, HS.out.2.tape, HS.out.2.output, HS.out.2.size, HS.out.2.block⟩
          have HBD := Lib.hid hbd
          have hgle : gap.length = g0.length := HGP.out.2.2.2.1
          have HGLE := Lib.hid hgle
          clear z0 hrcc hrb hrx hs hbl1 hbd hgle
          go_upto_region 14 with (fail)
          go_region_held3 (fun W => W.cell? ⟨rb, ro + k, none⟩ = some (.slice XA s.bytes.length xc))
            (first
              | exact HSK.out _ HBD.out
              | exact HSK.out _ HB6.out
              | exact HSK.out _ HB7.out)
            ((first
              | (refine step_append_bs rfl (.tmp 57) (.tmp 61) rfl r6 (.slice XA s.bytes.length xc) (by rfl) (by rfl) HO6.out (HREC.out _ HB6.out) (by rw [List.length_append, HGLE.out]; omega) HB6.out.size ?_
                 intro r7 w7 ho7 hgr7 hg7
                 have HO7 := Lib.hid ho7
                 have HB7 := Lib.hid (HB6.out.grown hgr7 HB6.out.size (fun k e => (World.ownsRow.lt HO6.out k e).1))
                 clear ho7 hgr7 hg7)
              | (refine step_append_bs rfl (.tmp 55) (.tmp 56) rfl u12 (.slice GA g0.length gc) (by rfl) (by rfl) HS.out.1 (HGB.out _ HBD.out) (by rw [HGLE.out]; omega) HBD.out.size ?_
                 intro r6 w6 ho6 hgr6 hg6
                 have HO6 := Lib.hid ho6
                 have HB6 := Lib.hid (HBD.out.grown hgr6 HBD.out.size (fun k e => (World.ownsRow.lt HS.out.1 k e).1))
                 clear ho6 hgr6 hg6)))
          all_goals
            go_wp2_with fail
            go_roundw
            · exact ⟨k + 1, hkl, by simp, Lib.hid ⟨by rw [HNX.out]; exact HO7.out, HB7.out⟩⟩
            · simp [intOf]; omega
        · have hke : k = l.length := by omega
          have htk : l.take k = l := List.take_of_length_le (by omega)
          have hob := HS.out.1
          rw [htk] at hob
          have hbl2 : (between gap l).length ≤ 130000 := by
            have h1 := HBN.out
            have : (gap.length + 4012) * l.length ≤ 4032 * 30 := Nat.mul_le_mul (by omega) (by omega)
            omega
          have HGL := Lib.hid HGP.out.2.2.2.1
          have hgb4 := (HGP.out.1.under HS.out.2).any (by rw [HGL.out]; omega)
          have HOB := Lib.hid (And.intro hob (And.intro HS.out.2 hgb4))
          have hki2 : ¬ (k : Int) < (l.length : Int) := by omega
          have hlm : (l.map Shp.made).length = l.length := List.length_map _
          have HTR := Lib.hid (fun W (h : Below w1.heap.size w1 W) => show Sl (fun _ => True) W (.slice TA l.length tc) (l.map Shp.made).length vs ∧ IsGs (fun _ => True) W (l.map Shp.made) vs from
            ⟨by rw [hlm]; exact ((Sl.of_own HU.out.tsl (by omega)).keeps (below_keeps h _)).mono fun _ _ _ => trivial, (HU.out.tgs.keeps (below_keeps h _)).mono fun _ _ _ => trivial⟩)
          clear hke htk hob HS hgb4
          go_wp2_with (first
            | (at_builtin
               go_must (
               refine (list_append_bs rfl (.tmp 63) (.tmp 64) rfl u12 (.slice GA g0.length gc) (by rfl) (by rfl) HOB.out.1 HOB.out.2.2 (by rw [HGL.out]; omega) HOB.out.2.1.size ?_)
               intro r5 w5 ho5 hgr5 hg5
               have hb5 := HOB.out.2.1.grown hgr5 HOB.out.2.1.size (fun k e => (World.ownsRow.lt HOB.out.1 k e).1)
               have HB5 := Lib.hid hb5
               have HMD := Lib.hid (mend_any 256 w5 (ho5.any (by rw [List.length_append, HGL.out]; omega)) (by rw [List.length_append, HGL.out]; omega) (HOK.out.2.below (HGP.out.2.2.1.trans (hb5.mono (by omega)))))
               rw [mend_between HGP.out.2.2.2.2 l HOK.out.1] at HMD
               clear ho5 hgr5 hg5 hb5))
            | fail)
          refine HMD.out.mono ?_
          rintro e w6 ⟨mv, rfl, hM⟩
          have hb56 := hM.below
          have hb46 := HB5.out.trans (hb56.mono HB5.out.size)
          obtain ⟨vs6, ho6, hg6⟩ := hM.own
          simp only [hlm] at ho6
          obtain ⟨MA, mc, hme, _⟩ := Sl.of_own ho6 (by omega)
          subst hme
          obtain ⟨t1, t2⟩ := HTR.out w6 (HGP.out.2.1.trans (hb46.mono hsr2))
          have HEQ := Lib.hid (equal_any w6 (gs := l.map Shp.made) (by rw [hlm]; exact (Sl.of_own ho6 (by omega)).mono (ok' := fun _ => True) fun _ _ _ => trivial) (hg6.mono fun _ _ _ => trivial) t1 t2)
          have HB46 := Lib.hid hb46
          rw [HGL.out]
          have hmul : wrap64 ((g0.length : Int) * ((l.length : Int) + 1)) = ((g0.length * (l.length + 1) : Nat) : Int) := by
            have : g0.length * (l.length + 1) ≤ 20 * 31 := Nat.mul_le_mul hlg (by omega)
            have e : (g0.length : Int) * ((l.length : Int) + 1) = ((g0.length * (l.length + 1) : Nat) : Int) := by rw [Int.natCast_mul]; rfl
            rw [e]
            unfold wrap64; omega
          obtain ⟨pp, hpp⟩ : ∃ pp, g0.length * (l.length + 1) = pp := ⟨_, rfl⟩
          rw [hpp] at hmul ⊢
          have hpb : ((pp : Int) != (pp : Int)) = false := by simp
          clear hM ho6 hg6 hb56 hb46 t1 t2 hpp HMD
          go_wp2_with fail
          refine HEQ.out.mono ?_
          rintro e w7 ⟨rfl, hb67⟩
          have hb47 := HB46.out.trans (hb67.mono HB46.out.size)
          have hb17 := HGP.out.2.1.trans (hb47.mono hsr2)
          have HB17 := Lib.hid hb17
          have HJ := Lib.hid (joined_any (ok2 := fun _ => True) w7 ((Sl.of_own HU.out.rsl (by omega)).keeps (below_keeps hb17 _)) (bs := l.map Shp.bytes) (by simp) (recs_bytes HU.out.rbs HOK.out.1 hb17) (by omega))
          have HG7 := Lib.hid (HOK.out.2.below (HU.out.below.trans (hb17.mono hs1)))
          clear hb47 hb67 hb17 HEQ
          go_wp2_with fail
          refine HJ.out.mono ?_
          rintro e w8 ⟨jv, rfl, hj, hb78⟩
          have HB18 := Lib.hid (HB17.out.trans (hb78.mono HB17.out.size))
          have HMD := Lib.hid (mend_any 256 w8 (hj.any (by omega)) (by omega) (HG7.out.below hb78))
          rw [mend_joined l HOK.out.1] at HMD
          clear hj hb78 HJ
          go_wp2_with fail
          refine HMD.out.mono ?_
          rintro e w9 ⟨mv2, rfl, hM⟩
          have HB19 := Lib.hid (HB18.out.trans (hM.below.mono HB18.out.size))
          obtain ⟨vs9, ho9, hg9⟩ := hM.own
          simp only [hlm] at ho9
          obtain ⟨MA2, mc2, hme, _⟩ := Sl.of_own ho9 (by omega)
          subst hme
          obtain ⟨t1, t2⟩ := HTR.out w9 HB19.out
          have HEQ := Lib.hid (equal_any w9 (gs := l.map Shp.made) (by rw [hlm]; exact (Sl.of_own ho9 (by omega)).mono (ok' := fun _ => True) fun _ _ _ => trivial) (hg9.mono fun _ _ _ => trivial) t1 t2)
          clear hM ho9 hg9 t1 t2 HMD
          go_wp2_with fail
          refine HEQ.out.mono ?_
          rintro e w10 ⟨rfl, hb910⟩
          have HB110 := Lib.hid (HB19.out.trans (hb910.mono HB19.out.size))
          clear hb910 HEQ
          by_cases hl0 : l.length = 0
          · have hli : ((l.length : Int) == 0) = true := by rw [hl0]; rfl
            go_wp2_with fail
            go_ret
            exact ⟨rfl, HV.out.2.2.trans ((HU.out.below.trans (HB110.out.mono hs1)).mono (by omega))⟩
          have hli : ((l.length : Int) == 0) = false := beq_eq_false_iff_ne.2 (by omega)
          have hli0 : (0 : Int) < (l.length : Int) := by omega
          have hli1 : 0 < l.length := by omega
          have hs110 := HB110.out.size
          have HI := Lib.hid (into_any at_ 4 w10 (by omega) (by omega))
          obtain ⟨p, hp⟩ : ∃ p : Nat, at_ % (4 : Int) = p := ⟨(at_ % (4 : Int)).toNat, by omega⟩
          have hp4 : p < 4 := by omega
          rw [hp] at HI
          have hba10 : Below wa.heap.size wa w10 := HU.out.below.trans (HB110.out.mono hs1)
          have h1 := (hba10.block _ (by omega)).trans HV.out.2.1
          have t0 := cell_row (cs := [_, _]) (j := 0) h1 rfl
          have t1 := cell_row (cs := [_, _]) (j := 1) h1 rfl
          obtain ⟨s, hs⟩ : ∃ s, l[0]? = some s := ⟨_, List.getElem?_eq_getElem (by omega)⟩
          have hsk : s.ok := HOK.out.1 s (List.mem_of_getElem? hs)
          obtain ⟨rx, hrx, hrb⟩ := HU.out.rbs.at 0 s.bytes (by simp [hs])
          obtain ⟨rb, ro, rk, hre, _, _, _, hrbl, hrcc⟩ := (Sl.of_own HU.out.rsl (by omega)).open (by intro e; rw [e] at hrx; simp at hrx)
          simp only [Value.slice.injEq, true_and] at hre
          obtain ⟨rfl, rfl⟩ := hre
          have z0 := hrcc 0 rx hrx
          obtain ⟨XA, xc, rfl⟩ := hrb.1.shape
          have hs12 := (rec_len hsk)
          have HSK : Hid (∀ W, Below w10.heap.size w10 W → W.cell? ⟨rb, ro, none⟩ = some (.slice XA s.bytes.length xc)) := Lib.hid fun W h => ((HB110.out.trans (h.mono HB110.out.size)).cell (p := ⟨rb, ro, none⟩) hrbl).trans z0
          have HCT := Lib.hid (fun W (h : Below w10.heap.size w10 W) => cut_any (s.bytes.length : Int) W (((hrb.1.under (HB110.out.trans (h.mono HB110.out.size))).any (by omega))))
          have HSS := Lib.hid (And.intro hs hsk)
          clear h1 hba10 hp hrx hrb hrcc z0 hs hsk
          go_wp2_with fail
          refine HI.out.mono ?_
          rintro e w' ⟨rfl, rfl⟩
          go_upto_region 25 with (fail)
          go_cut [19] (fun c W => OwnB w10.heap.size W c s.bytes ∧ Below w10.heap.size w10 W)
          case first =>
            go_region_held3 (fun W => W.cell? ⟨rb, ro, none⟩ = some (.slice XA s.bytes.length xc))
              (first
                | exact HSK.out _ ⟨rfl, rfl, rfl, Nat.le_refl _, fun _ _ => rfl⟩
                | exact HSK.out _ HO11.out.2)
              ((first
                | (go_at_call 30
                   refine (HCT.out w10.drew ⟨rfl, rfl, rfl, Nat.le_refl _, fun _ _ => rfl⟩).mono ?_
                   rintro e w11 ⟨r11, rfl, ho11, hb11⟩
                   rw [Int.toNat_natCast, List.take_length] at ho11
                   have HO11 := Lib.hid (And.intro (show OwnB w10.heap.size w11 r11 s.bytes from ho11) (show Below w10.heap.size w10 w11 from ⟨hb11.os, hb11.tape, hb11.output, hb11.size, hb11.block⟩))
                   clear ho11 hb11)))
            all_goals
              go_wp2_with fail
              go_meet
              case rel => exact HO11.out
          case rest =>
            obtain ⟨hoc, hbc⟩ := hcut
            obtain ⟨w11, hw11⟩ : ∃ w11, w11 = wc := ⟨_, rfl⟩
            subst hw11
            obtain ⟨gC, cC, rfl, hgC, hlC, hcC⟩ := hoc.form (by intro e; have h := hs12.1; rw [e] at h; simp at h)
            obtain ⟨y, hy⟩ : ∃ y, s.bytes[p]? = some y := ⟨_, List.getElem?_eq_getElem (by omega)⟩
            have yc := hcC p (bv y) (by simp [hy])
            rw [addn, Nat.zero_add] at yc
            simp only [bv] at yc
            have hfz := hoc.frozen p
            have t1 := (hbc.cell (p := ⟨w.heap.size, 1, none⟩) (by simp only; omega)).trans t1
            have HI2 := Lib.hid (fun W => into_any mask 255 W (by omega) (by omega))
            obtain ⟨q, hq⟩ : ∃ q : Nat, mask % 255 = q := ⟨(mask % 255).toNat, by omega⟩
            have hq2 : q < 255 := by omega
            rw [hq] at HI2
            have hyl := y.toNat_lt
            have hxx : bits .xor .u8 (y.toNat : Int) (IntKind.u8.wrap (1 + (q : Int))) = ((y ^^^ UInt8.ofNat (1 + q)).toNat : Int) := by
              have h1 : IntKind.u8.wrap (1 + (q : Int)) = ((1 + q : Nat) : Int) := by simp only [IntKind.wrap, IntKind.bits, IntKind.signed]; simp; omega
              rw [h1, xor8 _ _ hyl (by omega), UInt8.toNat_xor, u8_ofNat, Nat.mod_eq_of_lt (by omega)]
            generalize y ^^^ UInt8.ofNat (1 + q) = x at hxx
            have hpi0 : (0 : Int) ≤ (p : Int) := by omega
            have hpi1 : (p : Int) < (s.bytes.length : Int) := by omega
            have hw1 : IntKind.i64.wrap (1 + (q : Int)) = 1 + (q : Int) := wrapI_small (by omega) (by omega)
            have HST := Lib.hid (hoc.stored p x)
            have HBC := Lib.hid hbc
            clear hy hq hcC t0 hoc hbc
            go_upto_region 26 with (fail)
            go_cut [] (fun W => OwnB w10.heap.size W (.slice (some ⟨gC, 0, none⟩) s.bytes.length cC) (s.bytes.set p x) ∧ Below w10.heap.size w11 W)
            case first =>
              go_region_law (
                (try go_simp)
                go_at_call 31
                refine (HI2.out _).mono ?_
                rintro e w' ⟨rfl, rfl⟩)
              all_goals
                go_wp2_with fail
                go_meet
                case rel =>
                  have h := (Below.refl w10.heap.size w11).setCell (p := (⟨gC, p, none⟩ : Addr)) hgC (.int .u8 x.toNat)
                  exact ⟨HST.out.1, ⟨h.os, h.tape, h.output, h.size, h.block⟩⟩
            case rest =>
              obtain ⟨hc12, hb12⟩ := hcut
              obtain ⟨w12, hw12⟩ : ∃ w12, w12 = wc := ⟨_, rfl⟩
              subst hw12
              obtain ⟨C, hC⟩ : ∃ C, C = s.bytes.set p x := ⟨_, rfl⟩
              rw [← hC] at hc12
              have hCl : C.length = s.bytes.length := by rw [hC, List.length_set]
              obtain ⟨gC', cC', hv1, _, _, hcC⟩ := hc12.form (by intro e; rw [e] at hCl; simp only [List.length_nil] at hCl; omega)
              simp only [Value.slice.injEq, Option.some.injEq, Addr.mk.injEq, and_true] at hv1
              obtain ⟨rfl, hdum, rfl⟩ := hv1
              have HCC := Lib.hid hcC
              have hb1012 := HBC.out.trans hb12
              have HB12 := Lib.hid (And.intro hc12 (And.intro hb1012 (HB110.out.trans (hb1012.mono hs110))))
              have HEND := Lib.hid (fun W (h : Below w1.heap.size w1 W) => HV.out.2.2.trans ((HU.out.below.trans (h.mono hs1)).mono (show w.heap.size ≤ wa.heap.size by omega)))
              clear hc12 hb12 hb1012 hcC hdum HST HBC hfz hxx hC yc t1
              go_wp2_with fail
              go_loopw [20] (fun i W => ∃ j : Nat, j ≤ s.bytes.length ∧ i = .int .i64 j ∧ Hid (∀ x ∈ C.take j, x ≠ 80) ∧ w12 = W) (fun i _ => s.bytes.length - (intOf i).toNat)
              case atStart => exact ⟨0, Nat.zero_le _, rfl, Lib.hid (by simp), rfl⟩
              case round =>
                obtain ⟨j, hj, rfl, HJ, hwr⟩ := hrel
                subst hwr
                by_cases hjl : j < s.bytes.length
                · obtain ⟨y, hy⟩ : ∃ y, C[j]? = some y := ⟨_, List.getElem?_eq_getElem (by omega)⟩
                  have cc := HCC.out j (bv y) (by simp [hy])
                  rw [addn, Nat.zero_add] at cc
                  simp only [bv] at cc
                  have hji : (j : Int) < (s.bytes.length : Int) := by omega
                  have hji0 : (0 : Int) ≤ (j : Int) := by omega
                  have HY := Lib.hid hy
                  clear hy
                  by_cases h80 : y = 80
                  · have hb1 : ((y.toNat : Int) == 80) = true := by rw [h80]; rfl
                    clear h80
                    go_wp2_with fail
                    go_ret
                    exact ⟨rfl, HEND.out _ HB12.out.2.2⟩
                  · have hb1 : ((y.toNat : Int) == 80) = false := by
                      rw [beq_eq_false_iff_ne]; intro e
                      exact h80 (UInt8.toNat_inj.1 (by have : ((80 : UInt8)).toNat = 80 := rfl; omega))
                    have H80 := Lib.hid h80
                    clear h80
                    go_wp2_with fail
                    go_roundw
                    · refine ⟨j + 1, hjl, by simp, Lib.hid ?_, by first | rfl | trivial⟩
                      intro z hz
                      rw [take_snoc HY.out] at hz
                      rcases List.mem_append.1 hz with hz | hz
                      · exact HJ.out z hz
                      · rw [List.mem_singleton.1 hz]; exact H80.out
                    · simp [intOf]; omega
                · have hje : j = s.bytes.length := by omega
                  have hc80 := HJ.out
                  rw [hje, List.take_of_length_le (by omega)] at hc80
                  have HC80 := Lib.hid hc80
                  have hji : ¬ (j : Int) < (s.bytes.length : Int) := by omega
                  have hli2 : (1 : Int) ≤ (l.length : Int) := by omega
                  have hrc1 : (l.length : Int) ≤ (rc : Int) := by omega
                  have hb112 := HB12.out.2.2
                  have hft := flat_tail HSS.out.1
                  have hdr : ∀ x ∈ l.drop 1, x.ok := fun x hx => HOK.out.1 x (List.mem_of_mem_drop hx)
                  have HDR := Lib.hid hdr
                  have hdl : (l.drop 1).length = l.length - 1 := List.length_drop ..
                  have hrsl := HU.out.rbs.length
                  rw [List.length_map] at hrsl
                  have hsl := (Sl.of_own HU.out.rsl (by omega)).keeps (below_keeps hb112 _)
                  have HS1 := Lib.hid (hsl.behind 1 1 (by omega))
                  have HS0 := Lib.hid (fun h => hsl.behind0 h (by omega) 1 (by omega))
                  have HJ2 := Lib.hid (fun v (h : Sl (fun b => wa.heap.size ≤ b) w12 v (l.length - 1) (rs.drop 1)) => joined_any (ok2 := fun _ => True) w12 h (bs := (l.drop 1).map Shp.bytes) (by rw [List.length_map]; exact hdl) (by have := (recs_bytes HU.out.rbs HOK.out.1 hb112).behind; rw [← List.map_drop] at this; exact this) (by omega))
                  clear hrsl hsl
                  have HG12 := Lib.hid (HOK.out.2.below (HU.out.below.trans (hb112.mono hs1)))
                  generalize hfd : ((l.drop 1).map Shp.bytes).flatten = F at HJ2 hft
                  have HFD := Lib.hid hfd
                  have HCL := Lib.hid hCl
                  clear hje hc80 HJ hb112 hdr hfd hCl
                  go_wp2_with fail
                  all_goals refine (HJ2.out _ (by first | exact HS1.out | exact HS0.out (by assumption) | exact HS0.out rfl)).mono ?_
                  all_goals
                    rintro e w13 ⟨jv2, rfl, hj13, hb13⟩
                    have HB13 := Lib.hid (And.intro (HB12.out.1.under hb13) (And.intro (hj13.any (show F.length ≤ 140737488355328 by omega)) (And.intro (HB12.out.2.1.trans (hb13.mono HB12.out.2.1.size)) (HB12.out.2.2.trans (hb13.mono HB12.out.2.2.size)))))
                    have HG13 := Lib.hid (HG12.out.below hb13)
                    clear hj13 hb13 HJ2
                    go_wp2_with (first
                      | (at_builtin
                         go_must (
                         refine (list_append_bs rfl (.tmp 138) (.tmp 141) rfl (.slice (some ⟨gC, 0, none⟩) s.bytes.length cC) jv2 (by rfl) (by rfl) HB13.out.1 HB13.out.2.1 (by rw [HCL.out]; omega) HB13.out.2.2.1.size ?_)
                         intro r14 w14 ho14 hgr14 hg14
                         have hb14 := HB13.out.2.2.1.grown hgr14 HB13.out.2.2.1.size (fun k e => (World.ownsRow.lt HB13.out.1 k e).1)
                         have HB14 := Lib.hid (HB110.out.trans (hb14.mono hs110))
                         have HMD := Lib.hid (mend_any 256 w14 (ho14.any (by rw [List.length_append, HCL.out]; omega)) (by rw [List.length_append, HCL.out]; omega) (HOK.out.2.below (HU.out.below.trans (HB14.out.mono hs1))))
                         rw [mend_over 256 C F HC80.out, ← HFD.out, mend_joined _ HDR.out] at HMD
                         simp only [Nat.add_zero, HCL.out] at HMD
                         clear ho14 hgr14 hg14 hb14))
                      | fail)
                    refine HMD.out.mono ?_
                    rintro e w15 ⟨mv3, rfl, hM⟩
                    have hb115 := HB14.out.trans (hM.below.mono HB14.out.size)
                    have HB15 := Lib.hid hb115
                    obtain ⟨vs15, ho15, hg15⟩ := hM.own
                    have hlm2 : ((l.drop 1).map Shp.made).length = l.length - 1 := by simp
                    obtain ⟨tb, tO, tk, hte, _, _, _, _, _⟩ := (Sl.of_own HU.out.tsl (by omega)).open (by intro e; have := HU.out.tgs.length; rw [e] at this; simp at this; omega)
                    simp only [Value.slice.injEq, true_and] at hte
                    obtain ⟨rfl, rfl⟩ := hte
                    obtain ⟨t1, t2⟩ := HTR.out w15 hb115
                    rw [hlm] at t1
                    have htl := HU.out.tgs.length
                    rw [hlm] at htl
                    have HT1 := Lib.hid (t1.behind 1 4 (by omega))
                    have HT0 := Lib.hid (fun h => t1.behind0 h (by omega) 4 (by omega))
                    have t4 := t2.behind
                    rw [← List.map_drop] at t4
                    simp only [hlm2] at ho15
                    obtain ⟨MA3, mc3, hme3, _⟩ := Sl.of_own ho15 (by omega)
                    subst hme3
                    have HEQ := Lib.hid (fun v (h : Sl (fun _ => True) w15 v (l.length - 1) (vs.drop 4)) => equal_any w15 (gs := (l.drop 1).map Shp.made) (u := v) (by rw [hlm2]; exact (Sl.of_own ho15 (by omega)).mono (ok' := fun _ => True) fun _ _ _ => trivial) (hg15.mono fun _ _ _ => trivial) (by rw [hlm2]; exact h) t4)
                    have htc1 : (l.length : Int) ≤ (tc : Int) := by omega
                    have hsb : ((s.bytes.length : Int) == (s.bytes.length : Int)) = true := by simp
                    clear hM ho15 hg15 hb115 t1 t2 t4 htl HMD
                    go_wp2_with fail
                    all_goals
                      refine (HEQ.out _ (by first | exact HT1.out | exact HT0.out (by assumption) | exact HT0.out rfl)).mono ?_
                      rintro e w16 ⟨rfl, hb16⟩
                      have HB16 := Lib.hid (HB15.out.trans (hb16.mono HB15.out.size))
                      clear hb16
                      go_wp2_with fail
                      go_ret
                      exact ⟨by first | rfl | simp, HEND.out _ HB16.out⟩
end Go.Proofs.YtlffgepnhhnadaaDoor.Pl
