/- plumblaw27.StreamHeads, walked. -/
import Derived.Test.YtlffgepnhhnadaaDoorJoined
namespace Go.Proofs.YtlffgepnhhnadaaDoor.Pl
open Go.RowKit

/-- append of any slice of bytes, as a step of a region -/
theorem step_append_bs {w : World} {ops : Array Oper} {o : Oper} {a : Act} {K : Act → World → Prop} {Q : Exit → Act → World → Prop} {E : Prop} (hgd : o.guard = none) (s x : Operand)
    (ho : o.op = .call { callee := .builtin .append, args := #[s, x], argTypes := #[35, 35] }) {B : Nat} {ok : Nat → Prop} (v y : Value) {l m : List UInt8} (hs : a.eval s = v) (hx : a.eval x = y) (hv : OwnB B w v l) (hy : Bytes ok w y m) (hl : l.length + m.length ≤ 1099511627776) (hB : B ≤ w.heap.size)
    (h : ∀ r w', OwnB B w' r (l ++ m) → w.grownBy w' v.ownBlock → (∀ b, r.ownBlock = some b → v.ownBlock = some b ∨ b = w.heap.size) → K (a.put o.dst r) w') :
    if Region.wanted o (yielded ops a.tmps) = true then Oper.wp Tryd.prog o a w K Q else E := by
  obtain ⟨i0, hi, hz0, hz1, hz2⟩ := info_parts Tryd.info5x
  obtain ⟨A, c, rfl, hmc, _, hrow⟩ := hy
  cases m with
  | nil =>
    have hw : Region.wanted o (yielded ops a.tmps) = true := by simp [Region.wanted, hgd]
    rw [if_pos hw]
    have hrun := run_append_zero (P := Tryd.prog) (w := w) B 35 o.type 5 i0 1 Tryd.underlying35 hi v l.length (l.map bv) hv A c
    unfold Oper.wp
    simp [execOp, ho, resolve, invoke, builtin, hs, hx, hrun, Result.andThen]
    exact h v w (by simpa using hv) ⟨rfl, rfl, rfl, Nat.le_refl _, fun _ _ _ => rfl⟩ (fun b hb => .inl hb)
  | cons m0 mt =>
    obtain ⟨b, off, rfl, _, _, hc⟩ := hrow.at (by simp)
    refine step_append_lies w hgd s x 35 ho B 5 i0 (.int .u8 0) 1 1 Tryd.underlying35 hi hz0 hz1 hz2 rfl (by decide) v l.length (l.map bv) hs hv ⟨b, off, none⟩ (m0 :: mt).length c ((m0 :: mt).map bv) hx (by simp) (fun j u hj => by rw [addn]; exact hc j u hj) (bv_one _) (by simp) (by unfold maxLen; omega) (by omega) hB w.heap.size rfl ?_
    intro g cap w' h2 h3 h4 _
    refine h _ w' ?_ h3 (fun b hb => by cases hb; exact h4)
    unfold OwnB
    rw [List.map_append, List.length_append]; exact h2

theorem Each.impMem {α : Type} {R R' : Value → α → Prop} {vs : List Value} {xs : List α} (h : Each R vs xs) : (∀ v x, x ∈ xs → R v x → R' v x) → Each R' vs xs := by
  induction h with
  | nil => intro _; exact .nil
  | cons a _ ih => intro k; exact .cons (k _ _ (by simp) a) (ih fun v x hx => k v x (by simp [hx]))
/-- framed's records, as bytes -/
theorem recs_bytes {B : Nat} {ok : Nat → Prop} {w w' : World} {l : List Shp} {rs : List Value} (h : Each (RecB B ok w) rs (l.map Shp.bytes)) (hl : ∀ s ∈ l, s.ok) (hb : Below w.heap.size w w') : Each (Bytes (fun _ => True) w') rs (l.map Shp.bytes) :=
  h.impMem fun v x hx hq => by
    obtain ⟨s, hs, rfl⟩ := List.mem_map.1 hx
    have := (rec_len (hl s hs)).2
    exact (hq.1.under hb).any (by omega)
/-- the eight bytes of a head -/
def headL (mark len : Nat) : List UInt8 := encB 4 mark false ++ encB 4 len false
theorem headL_length (mark len : Nat) : (headL mark len).length = 8 := by simp [headL, encB_length]
theorem mark_enc : encB 4 1347177777 false = markB := by decide
theorem headL_mark {mark len : Nat} (hm : mark < 4294967296) : (headL mark len).take 4 = markB ↔ mark = 1347177777 := by
  have h4 : (headL mark len).take 4 = encB 4 mark false := by unfold headL; rw [List.take_left' (encB_length _ _ _)]
  rw [h4, ← mark_enc]
  constructor
  · intro h
    have := congrArg (decB · false) h
    simp only [dec_enc false 4 mark (by omega), dec_enc false 4 1347177777 (by omega)] at this
    exact this
  · rintro rfl; rfl
theorem headL_len {mark len : Nat} (hl : len < 4294967296) : wd (headL mark len) 4 4 false = len := by
  have h : Seg (headL mark len) 4 (encB 4 len false) := by
    have : Seg (headL mark len) 0 (encB 4 mark false ++ encB 4 len false) := ⟨[], by simp [headL]⟩
    have := this.right
    rwa [encB_length] at this
  exact h.wd (by omega)
theorem feed_head {mark len : Nat} (hm : mark < 4294967296) (hl : len < 4294967296) : feed 256 (headL mark len) = ([], 0, headL mark len, if mark ≠ 1347177777 then some (0, 270) else if 65536 < len then some (4, 274) else none) := by
  have h8 := headL_length mark len
  by_cases h1 : mark = 1347177777
  · rw [if_neg (by simp [h1])]
    by_cases h2 : 65536 < len
    · rw [if_pos h2]
      refine feed_bad ?_
      unfold recR
      rw [if_neg (by omega), if_neg (fun h => h ((headL_mark hm).2 h1)), headL_len hl, if_pos h2]
    · rw [if_neg h2]
      refine feed_wait ?_
      unfold recR
      rw [if_neg (by omega), if_neg (fun h => h ((headL_mark hm).2 h1)), headL_len hl, if_neg h2, if_pos (by omega)]
  · rw [if_pos h1]
    refine feed_bad ?_
    unfold recR
    rw [if_neg (by omega), if_pos (by simp [headL_mark hm, h1])]
theorem feed_seven (l : List UInt8) (h : l.length < 8) : feed 256 l = ([], 0, l, none) := feed_wait (by unfold recR; rw [if_pos h])
/-- records of shapes and what comes behind -/
theorem feed_shapes (l : List Shp) (hl : ∀ s ∈ l, s.ok) (m : List UInt8) : feed 256 ((l.map Shp.bytes).flatten ++ m) = (l.map Shp.made ++ (feed 256 m).1, (l.map Shp.bytes).flatten.length + (feed 256 m).2.1, (feed 256 m).2.2) := by
  have := feed_frames (l.map fun s => (s.lt, s.made)) m (by
    intro x hx
    obtain ⟨s, hs, rfl⟩ := List.mem_map.1 hx
    exact ⟨made_well (hl s hs), by have := made_enc (hl s hs) s.lt; simp only; omega⟩)
  have e : (l.map fun s => (s.lt, s.made)).flatMap (fun x => frameB (encG [x.1] x.2 0)) = (l.map Shp.bytes).flatten := by
    rw [List.flatMap_map, List.flatMap_def]; rfl
  rw [e] at this
  rw [this]
  simp
theorem flat_len : ∀ (l : List Shp), (∀ s ∈ l, s.ok) → (l.map Shp.bytes).flatten.length ≤ 4012 * l.length
  | [], _ => by simp
  | s :: l, h => by
    have h1 := flat_len l (fun x hx => h x (by simp [hx]))
    have h2 := (rec_len (h s (by simp))).2
    simp only [List.map_cons, List.flatten_cons, List.length_append, List.length_cons]; omega

set_option maxRecDepth 100000 in
set_option maxHeartbeats 2000000 in
theorem heads_any {v : Value} {l0 : List Shp} (mark len : Nat) (w : World) (hv : Shps w v l0) (hm : mark < 4294967296) (hln : len < 4294967296) (hg : ErrT w) :
    Calls Tryd.prog 10 #[v, .int .u32 mark, .int .u32 len] w fun e w' => e = .returned (.bool true) ∧ Below w.heap.size w w' := by
  have HFR := Lib.hid (framed_any w hv)
  have hok : ∀ s ∈ l0.take 30, s.ok := fun s hs => hv.2 s (List.mem_of_mem_take hs)
  have hll : (l0.take 30).length ≤ 30 := by rw [List.length_take]; exact Nat.min_le_left _ _
  generalize l0.take 30 = l at *
  have hw0 : 0 < w.heap.size := lt_of_cell hg
  have hfl := flat_len l hok
  have HOK := Lib.hid (And.intro hok hg)
  clear hok hv hg
  go_enter Tryd.func10, Tryd.ntmps10
  go_wp2_with fail
  refine HFR.out.mono ?_
  rintro e w1 ⟨tv, rv, vs, rs, rfl, hU⟩
  obtain ⟨TA, tc, rfl, htc, _⟩ := Sl.of_own hU.tsl (by omega)
  have hs1 := hU.below.size
  have HAL := Lib.hid (alive_any w1 (HOK.out.2.below hU.below))
  have HU := Lib.hid hU
  clear hU
  go_wp2_with fail
  refine HAL.out.mono ?_
  rintro e w2 ⟨rfl, hb2⟩
  have hs2 := hb2.size
  have HJ := Lib.hid (joined_any (ok2 := fun _ => True) w2 ((Sl.of_own HU.out.rsl (by omega)).keeps (below_keeps hb2 _)) (bs := l.map Shp.bytes) (by simp) (recs_bytes HU.out.rbs HOK.out.1 hb2) (by omega))
  have H2 := Lib.hid (And.intro (HU.out.below.trans (hb2.mono hs1)) hb2)
  generalize hBB : (l.map Shp.bytes).flatten = BB at *
  have HBB := Lib.hid hBB
  clear hb2 HAL HFR hBB
  go_wp2_with fail
  refine HJ.out.mono ?_
  rintro e w3 ⟨r3, rfl, ho3, hb3⟩
  obtain ⟨JA, jc, rfl⟩ := ho3.shape
  have hs3 := hb3.size
  have HP1 := Lib.hid (Put32_any (sv := .slice none 0 0) (l := []) mark false w3 (show Bytes (fun _ => True) w3 (.slice none 0 0) [] from Sl.nil _ w3) (by simp))
  have H3 := Lib.hid (And.intro ho3 (And.intro hb3 (H2.out.1.trans (hb3.mono H2.out.1.size))))
  clear ho3 hb3 HJ
  go_wp2_with fail
  refine HP1.out.mono ?_
  rintro e w4 ⟨r4, rfl, ho4, hb4⟩
  have hs4 := hb4.size
  rw [List.nil_append] at ho4
  have HP2 := Lib.hid (Put32_any len false w4 (ho4.any (by rw [encB_length]; omega)) (by rw [encB_length]; omega))
  have H4 := Lib.hid (H3.out.2.2.trans (hb4.mono H3.out.2.2.size))
  have HB34 := Lib.hid hb4
  clear ho4 hb4 HP1
  go_wp2_with fail
  refine HP2.out.mono ?_
  rintro e w5 ⟨r5, rfl, ho5, hb5⟩
  have hs5 := hb5.size
  rw [show encB 4 mark false ++ encB 4 len false = headL mark len from rfl] at ho5
  have h8 := headL_length mark len
  have HH := Lib.hid h8
  obtain ⟨gh, ch, rfl, hgh, hlh, _⟩ := ho5.form (by intro e; rw [e] at h8; simp at h8)
  have hch := ho5.len.2
  have HN := Lib.hid (new_any 256 w5)
  have H5 := Lib.hid (And.intro ho5 (And.intro (HB34.out.trans (hb5.mono HB34.out.size)) (H4.out.trans (hb5.mono H4.out.size))))
  rw [HH.out] at hch ⊢
  clear ho5 hb5 HP2 h8
  go_wp2_with fail
  refine HN.out.mono ?_
  rintro e w6 ⟨rfl, hb6, hf6⟩
  have hs6 := hb6.size
  have H6 := Lib.hid (And.intro hb6 hf6)
  clear hb6 hf6 HN
  have hbE : Below w6.heap.size w6 (w6.drew.alloc (.cells #[] 5)) := by have h := (Below.refl w6.heap.size w6.drew).alloc (Nat.le_refl _) (.cells #[] 5); exact ⟨h.os, h.tape, h.output, h.size, h.block⟩
  have hoE : OwnB w6.heap.size (w6.drew.alloc (.cells #[] 5)) (.slice (some ⟨w6.heap.size, 0, none⟩) 0 0) [] := ⟨rfl, .inr ⟨w6.heap.size, 0, #[], rfl, Nat.le_refl _, World.alloc_heap_new w6.drew _, Nat.le_refl _, by simp, rfl, rfl⟩⟩
  have hb36 : Below w3.heap.size w3 w6 := H5.out.2.1.trans (H6.out.1.mono (by omega))
  have hb56 := H6.out.1
  have HE := Lib.hid (And.intro hbE (And.intro hoE (And.intro ((H3.out.1.under (hb36.trans (hbE.mono (by omega)))).any (by omega)) (H5.out.2.2.trans (hb56.mono H5.out.2.2.size)))))
  have hgw6 := HOK.out.2.below HE.out.2.2.2
  have HT7 := Lib.hid (show ∀ W, Below w6.heap.size w6 W → Bytes (fun _ => True) W (.slice (some ⟨gh, 0, none⟩) 7 ch) ((headL mark len).take 7) from fun W hW =>
    Bytes.take ((H5.out.1.under (hb56.trans (hW.mono hs6))).any (by rw [HH.out]; omega)) 7 (by rw [HH.out]; omega))
  have ht7 : ((headL mark len).take 7).length = 7 := by rw [List.length_take, HH.out]; rfl
  have hfd : feed 256 (BB ++ (headL mark len).take 7) = (l.map Shp.made, BB.length, (headL mark len).take 7, none) := by
    rw [← HBB.out, feed_shapes l HOK.out.1, feed_seven _ (by rw [ht7]; omega)]
    simp
  have HFD := Lib.hid (And.intro hfd (And.intro ht7 hgw6))
  have h6l := lt_of_heap H6.out.2
  have h7i : (7 : Int) ≤ (ch : Int) := by omega
  clear hbE hoE hb36 hb56 hgw6 ht7 hfd
  go_upto_region 10 with (fail)
  go_cut [14, 15] (fun ov ev W => ev = .nilIface ∧ ∃ W8 vs bp, Below w6.heap.size w6 W8 ∧ FeedU w5.heap.size W8 w5.heap.size 256 0 0 (l.map Shp.made, BB.length, (headL mark len).take 7, none) ov .nilIface bp vs W)
  case first =>
    go_region_law (first
      | ((try go_simp)
         go_at_call 32
         refine (HCF.out).mono ?_
         rintro e w9 ⟨ov, ev, bp, vs9, rfl, hV⟩
         have HV := Lib.hid hV
         clear hV)
      | (refine step_append_bs rfl (.tmp 49) (.tmp 51) rfl r7 (.slice (some ⟨gh, 0, none⟩) 7 ch) (by rfl) (by rfl) HR7.out.1 (HT7.out _ HR7.out.2) (by rw [HFD.out.2.1]; omega) HR7.out.2.size ?_
         intro r8 w8 ho8 hgr8 hg8
         have hb8 : Below w6.heap.size w6 w8 := HR7.out.2.grown hgr8 HR7.out.2.size (fun k e => (World.ownsRow.lt HR7.out.1 k e).1)
         have HB8 := Lib.hid hb8
         have HCF := Lib.hid (feed_any w8 (FreshR.st (show FreshR w8 w5.heap.size 256 from (hb8.block _ h6l).trans H6.out.2) (Nat.le_refl _)) (ho8.any (by rw [List.length_append, HFD.out.2.1]; omega)) (by rw [List.length_append, HFD.out.2.1]; simp only [List.length_nil]; omega) (by omega) (HFD.out.2.2.below hb8) (Nat.le_trans (Nat.le_of_lt h6l) hb8.size) (by omega))
         rw [List.nil_append, HFD.out.1] at HCF
         clear ho8 hgr8 hg8 hb8)
      | (refine step_append_bs rfl (.tmp 47) (.tmp 48) rfl (.slice (some ⟨w6.heap.size, 0, none⟩) 0 0) (.slice JA BB.length jc) (by rfl) (by rfl) HE.out.2.1 HE.out.2.2.1 (by simp only [List.length_nil]; omega) HE.out.1.size ?_
         intro r7 w7 ho7 hgr7 hg7
         rw [List.nil_append] at ho7
         have HR7 := Lib.hid (And.intro ho7 (HE.out.1.grown hgr7 HE.out.1.size (fun k e => by simp only [Value.ownBlock, Option.some.injEq] at e; omega)))
         clear ho7 hgr7 hg7))
    all_goals
      obtain rfl : ev = .nilIface := HV.out.err
      go_wp2_with fail
      go_meet
      case rel => exact ⟨rfl, _, _, _, HB8.out, HV.out⟩
  case rest =>
    obtain ⟨rfl, w8, vs9, bp, hb8, hV⟩ := hcut
    obtain ⟨w9, hw9⟩ : ∃ w9, w9 = wc := ⟨_, rfl⟩
    subst hw9
    have hbpn : bp = .pointer none := hV.bp
    subst hbpn
    have hs8 := hb8.size
    have hs9 := hV.below.size
    have hb59 : Below w5.heap.size w5 w9 := (H6.out.1.trans (hb8.mono hs6)).trans hV.below
    have hb19 : Below w1.heap.size w1 w9 := H2.out.2.trans ((H3.out.2.1.trans ((H5.out.2.1.trans (hb59.mono (by omega))).mono hs3)).mono hs2)
    have hb09 : Below w.heap.size w w9 := HU.out.below.trans (hb19.mono hs1)
    have hlm : (l.map Shp.made).length = l.length := List.length_map _
    have htl : Sl (fun _ => True) w9 (.slice TA l.length tc) (l.map Shp.made).length vs := by rw [hlm]; exact ((Sl.of_own HU.out.tsl (by omega)).keeps (below_keeps hb19 _)).mono fun _ _ _ => trivial
    have HEQ := Lib.hid (equal_any w9 hV.sl hV.gs htl ((HU.out.tgs.keeps (below_keeps hb19 _)).mono fun _ _ _ => trivial))
    have hsl9 := hV.sl
    rw [hlm] at hsl9
    obtain ⟨OA, oc, hov, _⟩ := hsl9
    subst hov
    have hst := hV.st
    simp only [hlm] at hst
    have H9 := Lib.hid (And.intro hst (And.intro hb09 (And.intro (HOK.out.2.below hb09) (Bytes.keepB (H5.out.1.any (by rw [HH.out]; omega)) hb59))))
    have hch2 : ¬ ch = 7 := by omega
    have h08 : (0 : Int) ≤ 7 ∧ (7 : Int) ≤ 8 := by omega
    clear hb8 hV hb59 hb19 hb09 htl hst hlm HE HT7
    go_wp2_with fail
    refine HEQ.out.mono ?_
    rintro e w10 ⟨rfl, hb10⟩
    have hs10 := hb10.size
    have hst10 := H9.out.1.below hb10
    have HWT := Lib.hid (Waiting_any w10 hst10)
    have HCT := Lib.hid (Count_any w10 hst10)
    rw [HFD.out.2.1] at HWT
    simp only [Int.zero_add] at HCT
    have hby := Bytes.keepB H9.out.2.2.2 hb10
    have hdr : Bytes (fun _ => True) w10 (.slice (some ⟨gh, 7, none⟩) 1 (ch - 7)) ((headL mark len).drop 7) := by
      have h := Bytes.drop hby 7 (by rw [HH.out]; omega)
      rw [HH.out, Nat.zero_add] at h
      exact h
    have hd1 : ((headL mark len).drop 7).length = 1 := by rw [List.length_drop, HH.out]
    have HF2 := Lib.hid (feed_any w10 hst10 hdr (by rw [HFD.out.2.1, hd1]; omega) (by omega) (H9.out.2.2.1.below hb10) (by have := hst10.lt; omega) (by omega))
    rw [List.take_append_drop, feed_head hm hln] at HF2
    have H10 := Lib.hid (And.intro (H9.out.2.1.trans (hb10.mono H9.out.2.1.size)) (H9.out.2.2.1.below hb10))
    clear hb10 hst10 hby hdr hd1 HEQ
    go_wp2_with fail
    refine HWT.out.mono ?_
    rintro e w' ⟨rfl, rfl⟩
    go_wp2_with fail
    refine HCT.out.mono ?_
    rintro e w' ⟨rfl, rfl⟩
    go_wp2_with fail
    refine HF2.out.mono ?_
    rintro e w11 ⟨ov2, ev2, bp2, vs2, rfl, hV2⟩
    have hs11 := hV2.below.size
    have hsl2 : Sl (NewS w10 w11 w5.heap.size) w11 ov2 0 vs2 := hV2.sl
    obtain ⟨OB, ocb, rfl, _⟩ := hsl2
    have HW2 := Lib.hid (Waiting_any w11 hV2.st)
    rw [HH.out] at HW2
    have hb011 : Below w.heap.size w w11 := H10.out.1.trans (hV2.below.mono (by omega))
    have her := hV2.err
    simp only [Int.zero_add, Int.natCast_zero, Int.add_zero] at her
    have HER := Lib.hid her
    have HTO := Lib.hid (fun code a => told_any _ ev2 code a w11 (HOK.out.2.below hb011) her)
    have HB11 := Lib.hid hb011
    clear hV2 hb011 her HF2 HWT HCT
    by_cases hm1 : mark = 1347177777
    · rw [if_neg (by simp [hm1])] at HTO HER
      have hmi : ((mark : Int) != 1347177777) = false := by simp; omega
      by_cases hl1 : 65536 < len
      · rw [if_pos hl1] at HTO
        simp only [errAt] at HTO
        rw [wrap_at (by omega) (by omega) (by omega) (by omega)] at HTO
        have hli : (65536 : Int) < (len : Int) := by omega
        clear HER
        go_wp2_with fail
        refine HW2.out.mono ?_
        rintro e w' ⟨rfl, rfl⟩
        go_wp2_with fail
        refine (HTO.out _ _).mono ?_
        rintro e w12 ⟨rfl, hb12⟩
        have HB12 := Lib.hid (HB11.out.trans (hb12.mono HB11.out.size))
        clear hb12
        go_wp2_with fail
        go_ret
        exact ⟨ret_bool (by simp [toldB]; omega), HB12.out⟩
      · rw [if_neg hl1] at HER
        have hev : ev2 = .nilIface := HER.out
        subst hev
        have hli : ¬ (65536 : Int) < (len : Int) := by omega
        clear HTO HER
        go_wp2_with fail
        refine HW2.out.mono ?_
        rintro e w' ⟨rfl, rfl⟩
        go_wp2_with fail
        go_ret
        exact ⟨rfl, HB11.out⟩
    · rw [if_pos hm1] at HTO
      simp only [errAt] at HTO
      rw [wrap_at (by omega) (by omega) (by omega) (by omega)] at HTO
      have hmi : ((mark : Int) != 1347177777) = true := by simp; omega
      clear HER
      go_wp2_with fail
      refine HW2.out.mono ?_
      rintro e w' ⟨rfl, rfl⟩
      go_wp2_with fail
      refine (HTO.out _ _).mono ?_
      rintro e w12 ⟨rfl, hb12⟩
      have HB12 := Lib.hid (HB11.out.trans (hb12.mono HB11.out.size))
      clear hb12
      go_wp2_with fail
      go_ret
      exact ⟨ret_bool (by simp [toldB]), HB12.out⟩
end Go.Proofs.YtlffgepnhhnadaaDoor.Pl
