/- plumblaw27.StreamFresh, walked. -/
import Derived.Test.YtlffgepnhhnadaaDoorFreD
import Derived.Laws.MakeOwn
namespace Go.Proofs.YtlffgepnhhnadaaDoor.Pl
open Go.RowKit

theorem three_own (w : World) (a b c : UInt8) : OwnB w.heap.size (w.alloc (.cells #[bv a, bv b, bv c] 5)) (.slice (some ⟨w.heap.size, 0, none⟩) 3 3) [a, b, c] :=
  ownB_of (l := [a, b, c]) (n := 3) (World.alloc_heap_new w _) rfl rfl (Nat.le_refl _) (by simp)
theorem make_bytes (n : Nat) (w : World) (hn : n ≤ 140737488355328) : ∃ w1, (Instr.makeSlice 35 (.int .i64 0) (.int .i64 n)).run Tryd.prog w = .ok (.slice (some ⟨w.heap.size, 0, none⟩) 0 n) w1 ∧
    OwnB w.heap.size w1 (.slice (some ⟨w.heap.size, 0, none⟩) 0 n) [] ∧ Below w.heap.size w w1 := by
  obtain ⟨i0, hi, hz0, hz1, hz2⟩ := info_parts Tryd.info5x
  obtain ⟨w1, h1, h2, h3⟩ := run_make_own (P := Tryd.prog) w w.heap.size 35 5 i0 (.int .u8 0) 1 Tryd.underlying35 hi hz0 hz1 .i64 .i64 n (by rw [hz2]; omega) (by unfold maxLen; omega) (Nat.le_refl _)
  exact ⟨w1, h1, h2, (Below.refl _ _).grown h3 (Nat.le_refl _) (fun _ e => by cases e)⟩

theorem ob_eq {g n c j : Nat} (e : (Value.slice (some ⟨g, 0, none⟩) n c).ownBlock = some j) : j = g := by simpa [Value.ownBlock] using e.symm
theorem fill_mid {α : Type} (l t : List α) (x : α) (k : Nat) (h : k ≤ l.length) : ((List.replicate k x ++ (l ++ t).drop k).take l.length).drop k = l.drop k := by
  rw [List.drop_append_of_le_length h, ← List.append_assoc, List.take_append_of_le_length (by rw [List.length_append, List.length_replicate, List.length_drop]; omega), List.take_of_length_le (by rw [List.length_append, List.length_replicate, List.length_drop]; omega), List.drop_append_of_le_length (by rw [List.length_replicate]; exact Nat.le_refl _), List.drop_eq_nil_of_le (by rw [List.length_replicate]; exact Nat.le_refl _), List.nil_append]
theorem geoms_one {ok : Nat → Prop} {w : World} : ∀ {gs : List G} {cs : List Value}, IsGs ok w gs cs → ∀ u ∈ cs, u.oneCell' = true
  | [], _, h, u, hu => by simp only [IsGs] at h; subst h; cases hu
  | g :: gs, _, h, u, hu => by
    simp only [IsGs] at h
    obtain ⟨c, d, rfl, h1, h2⟩ := h
    rcases List.mem_append.1 hu with hu | hu
    · obtain ⟨ki, A1, n1, c1, A2, n2, c2, A3, n3, c3, rfl⟩ := geom_shape h1
      simp only [List.mem_cons, List.not_mem_nil, or_false] at hu
      rcases hu with rfl | rfl | rfl | rfl <;> rfl
    · exact geoms_one h2 u hu
theorem line_weight (g : G) : g.line.length ≤ weightG g := by cases g; simp only [G.line, weightG]; omega
theorem weights_len : ∀ p : List G, p.length ≤ weightGs p
  | [] => Nat.zero_le _
  | .mk _ _ _ _ :: p => by have := weights_len p; simp only [List.length_cons, weightGs, weightG]; omega
theorem parts_weight (g : G) : g.parts.length ≤ weightG g := by
  cases g with
  | mk k l r p => have := weights_len p; simp only [G.parts, weightG]; omega
/-- a stream that is fed in two pieces -/
theorem fresh_split (d : Int) (b : List UInt8) (k : Nat) {T : List G} {n : Nat} {q : List UInt8} (h : feed d b = (T, n, q, none)) :
    ∃ T1 n1 q1 T2 n2, feed d (b.take k) = (T1, n1, q1, none) ∧ feed d (q1 ++ b.drop k) = (T2, n2, q, none) ∧ T1 ++ T2 = T ∧ n1 + n2 = n := by
  have hj := feed_join d _ (b.take k) (b.drop k) (Nat.le_refl _)
  rw [List.take_append_drop, h] at hj
  rcases hr : feed d (b.take k) with ⟨T1, n1, q1, e1⟩
  rw [hr] at hj
  cases e1 with
  | some e => simp at hj
  | none =>
    rcases hr2 : feed d (q1 ++ b.drop k) with ⟨T2, n2, q2, e2⟩
    simp only [hr2, Prod.mk.injEq] at hj
    obtain ⟨rfl, rfl, rfl, rfl⟩ := hj
    exact ⟨T1, n1, q1, T2, n2, rfl, hr2, rfl, rfl⟩

set_option maxRecDepth 100000 in
set_option maxHeartbeats 4000000 in
theorem fresh_any {v : Value} {l0 : List Shp} (k : Int) (w : World) (hv : Shps w v l0) (hg : ErrT w) :
    Calls Tryd.prog 7 #[v, .int .i64 k] w fun e w' => e = .returned (.bool true) ∧ Below w.heap.size w w' := by
  have HFR := Lib.hid (framed_any w hv)
  have hok : ∀ s ∈ l0.take 30, s.ok := fun s hs => hv.2 s (List.mem_of_mem_take hs)
  have hll : (l0.take 30).length ≤ 30 := by rw [List.length_take]; exact Nat.min_le_left _ _
  have hlt : ∀ i s, (l0.take 30)[i]? = some s → l0[i]? = some s := fun i s h => by rw [List.getElem?_take] at h; split at h; exact h; cases h
  have HL0 := Lib.hid (And.intro hv hlt)
  generalize l0.take 30 = l at *
  have hw0 : 0 < w.heap.size := lt_of_cell hg
  have hfl := flat_len l hok
  have HOK := Lib.hid (And.intro hok hg)
  obtain ⟨⟨A0, ac, rfl, hac, _, _⟩, _⟩ := hv
  clear hok hg hlt
  go_enter Tryd.func7, Tryd.ntmps7
  go_wp2_with fail
  refine HFR.out.mono ?_
  rintro e w1 ⟨tv, rv, vs, rs, rfl, hU⟩
  obtain ⟨TA, tc, rfl, htc, _⟩ := Sl.of_own hU.tsl (by omega)
  obtain ⟨RA, rc, rfl⟩ := own_shape hU.rsl
  have hs1 := hU.below.size
  have HAL := Lib.hid (alive_any w1 (HOK.out.2.below hU.below))
  have HU := Lib.hid hU
  clear hU
  go_wp2_with fail
  refine HAL.out.mono ?_
  rintro e w2 ⟨rfl, hb2⟩
  have hs2 := hb2.size
  have HJ := Lib.hid (joined_any (ok2 := fun _ => True) w2 ((Sl.of_own HU.out.rsl (by omega)).keeps (below_keeps hb2 _)) (bs := l.map Shp.bytes) (by simp) (recs_bytes HU.out.rbs HOK.out.1 hb2) (by omega))
  have H2 := Lib.hid (And.intro (HU.out.below.trans (hb2.mono hs1)) hb2)
  generalize hBB : (l.map Shp.bytes).flatten = BB at *
  have HBB := Lib.hid hBB
  clear hb2 HAL HFR hBB
  go_wp2_with fail
  refine HJ.out.mono ?_
  rintro e w3 ⟨r3, rfl, ho3, hb3⟩
  have hs3 := hb3.size
  have H3 := Lib.hid (And.intro ho3 (And.intro hb3 (H2.out.1.trans (hb3.mono H2.out.1.size))))
  have ha3 : Below w3.heap.size w3 (w3.alloc (.cells #[.int .u8 80, .int .u8 76, .int .u8 77] 5)) := (Below.refl _ _).alloc (Nat.le_refl _) _
  have hm3 : OwnB w3.heap.size (w3.alloc (.cells #[.int .u8 80, .int .u8 76, .int .u8 77] 5)) (.slice (some ⟨w3.heap.size, 0, none⟩) 3 3) [80, 76, 77] := three_own w3 80 76 77
  have HA3 := Lib.hid (And.intro ha3 hm3)
  clear ho3 hb3 HJ ha3 hm3
  go_upto_region 6 with (first
    | (at_builtin
       go_must (
        refine list_append rfl (.tmp 52) (.tmp 53) rfl r3 (.slice (some ⟨w3.heap.size, 0, none⟩) 3 3) (by rfl) (by rfl) (H3.out.1.under HA3.out.1) HA3.out.2 (by simp) (by simp only [List.length_cons, List.length_nil]; omega) (Nat.le_trans hs3 HA3.out.1.size) ?_
        intro g4 cap4 w4 ho4 hgr4 hg4 hlt4
        have HR4 := Lib.hid (And.intro ho4 hgr4)
        clear ho4 hgr4 hg4 hlt4))
    | fail)
  obtain ⟨L, hL⟩ : ∃ L, BB.length + 3 = L := ⟨_, rfl⟩
  obtain ⟨b, hb⟩ : ∃ b, BB ++ [80, 76, 77] = b := ⟨_, rfl⟩
  have hbl : b.length = L := by rw [← hb, List.length_append, ← hL]; rfl
  have HBD := Lib.hid (And.intro hb hL)
  have hLb : L ≤ 3000000 := by omega
  have ho4 : OwnB w2.heap.size w4 (.slice (some ⟨g4, 0, none⟩) L cap4) b := by
    have h : OwnB w2.heap.size w4 (.slice (some ⟨g4, 0, none⟩) (BB.length + 3) cap4) (BB ++ [80, 76, 77]) := HR4.out.1
    rw [hb, hL] at h; exact h
  have hb24 : Below w2.heap.size w2 w4 := H3.out.2.1.trans (((HA3.out.1.mono hs3)).grown HR4.out.2 (Nat.le_trans hs3 HA3.out.1.size) (fun j e => (World.ownsRow.lt H3.out.1 j e).1))
  have hs4 := hb24.size
  obtain ⟨wm, hmk, hom, hbm⟩ := make_bytes (L + 90) w4 (by omega)
  rw [show ((L + 90 : Nat) : Int) = (L : Int) + 90 by omega] at hmk
  have hw90 : IntKind.i64.wrap ((L : Int) + 90) = (L : Int) + 90 := IntWalk.i64_in _ (by omega)
  have H4 := Lib.hid (And.intro ho4 (And.intro hb24 (And.intro hom hbm)))
  have hL0 : 0 < L := by omega
  have hbne : b ≠ [] := by intro e; rw [e] at hbl; simp at hbl; omega
  rw [hL]
  clear HR4 HA3 hb ho4 hb24 hom hbm hL
  go_upto_region 7 with (first
    | (at_builtin
       refine list_append rfl (.tmp 60) (.tmp 61) rfl (.slice (some ⟨g5, 0, none⟩) L cap5) (.slice (some ⟨w5.heap.size, 0, none⟩) 3 3) (by rfl) (by rfl) HA5.out.1 HA5.out.2.1 (by simp) (by simp only [List.length_cons, List.length_nil]; omega) HA5.out.2.2 ?_
       intro g6 cap6 w6 ho6 hgr6 hg6 hlt6
       have HR6 := Lib.hid (And.intro ho6 hgr6)
       clear ho6 hgr6 hg6 hlt6)
    | (at_builtin
       go_must (
        refine list_append rfl (.tmp 58) (.tmp 59) rfl (.slice (some ⟨w4.heap.size, 0, none⟩) 0 (L + 90)) (.slice (some ⟨g4, 0, none⟩) L cap4) (by rfl) (by rfl) H4.out.2.2.1 (H4.out.1.under H4.out.2.2.2) hbne (by simp only [List.length_nil]; omega) H4.out.2.2.2.size ?_
        intro g5 cap5 w5 ho5 hgr5 hg5 hlt5
        rw [List.nil_append, List.length_nil, Nat.zero_add, hbl] at ho5
        have ha5 : Below w5.heap.size w5 (w5.alloc (.cells #[.int .u8 201, .int .u8 202, .int .u8 203] 5)) := (Below.refl _ _).alloc (Nat.le_refl _) _
        have hm5 : OwnB w5.heap.size (w5.alloc (.cells #[.int .u8 201, .int .u8 202, .int .u8 203] 5)) (.slice (some ⟨w5.heap.size, 0, none⟩) 3 3) [201, 202, 203] := three_own w5 201 202 203
        have hb45 : Below w4.heap.size w4 w5 := H4.out.2.2.2.grown hgr5 H4.out.2.2.2.size (fun j e => (World.ownsRow.lt H4.out.2.2.1 j e).1)
        have HA5 := Lib.hid (And.intro (OwnB.under ho5 ha5) (And.intro hm5 (Nat.le_trans hb45.size ha5.size)))
        have HB5 := Lib.hid (And.intro hb45 (And.intro ha5 ho5))
        clear ho5 hgr5 hg5 hlt5 ha5 hm5 hb45))
    | fail)
  have ho6 : OwnB w4.heap.size w6 (.slice (some ⟨g6, 0, none⟩) (L + 3) cap6) (b ++ [201, 202, 203]) := by have h := HR6.out.1; rw [hbl] at h; exact h
  have hb46 : Below w4.heap.size w4 w6 := HB5.out.1.trans ((HB5.out.2.1.mono HB5.out.1.size).grown HR6.out.2 (Nat.le_trans HB5.out.1.size HB5.out.2.1.size) (fun j e => (World.ownsRow.lt HA5.out.1 j e).1))
  have hs6 := hb46.size
  have hb26 : Below w2.heap.size w2 w6 := H4.out.2.1.trans (hb46.mono hs4)
  have hrg := World.ownsRow.lt ho6 g6 rfl
  have hbg := World.ownsRow.lt H4.out.1 g4 rfl
  have H6 := Lib.hid (And.intro ho6 (And.intro (H4.out.1.under hb46) hb26))
  clear HR6 HA5 HB5 ho6 hb46 hb26 hmk hw90 hbne
  go_wp2_with fail
  refine (new_any 256 w6).mono ?_
  rintro e w7 ⟨rfl, hb7, hf7⟩
  have hs7 := hb7.size
  have hr7 := lt_of_heap hf7
  have HR7 := Lib.hid (And.intro hb7 hf7)
  clear hb7 hf7
  go_wp2_with fail
  refine (new_any 256 w7).mono ?_
  rintro e w8 ⟨rfl, hb8, hf8⟩
  have hs8 := hb8.size
  have hr8 := lt_of_heap hf8
  have HR8 : Hid (Below w6.heap.size w6 w8 ∧ FreshR w8 w6.heap.size 256 ∧ FreshR w8 w7.heap.size 256) := Lib.hid ⟨HR7.out.1.trans (hb8.mono hs7), (hb8.block _ hr7).trans HR7.out.2, hf8⟩
  clear hb8 hf8 HR7
  obtain ⟨at_, hat⟩ : ∃ at_ : Nat, k % ((L : Int) + 1) = at_ := ⟨(k % ((L : Int) + 1)).toNat, by have := Int.emod_nonneg k (by omega : (L : Int) + 1 ≠ 0); omega⟩
  have hatL : at_ ≤ L := by have := Int.emod_lt_of_pos k (by omega : 0 < (L : Int) + 1); omega
  have hw1 : IntKind.i64.wrap ((L : Int) + 1) = (L : Int) + 1 := IntWalk.i64_in _ (by omega)
  have HIN := Lib.hid (into_any k ((L : Int) + 1) w8 (by omega) (by omega))
  rw [hat] at HIN
  go_wp2_with fail
  refine HIN.out.mono ?_
  rintro e w' ⟨rfl, rfl⟩
  -- the room, at w8
  have hro8 : OwnB w4.heap.size w8 (.slice (some ⟨g6, 0, none⟩) (L + 3) cap6) (b ++ [201, 202, 203]) := H6.out.1.under HR8.out.1
  have hcap : L + 3 ≤ cap6 := by have h := (OwnB.len hro8).2; rw [List.length_append, hbl] at h; exact h
  obtain ⟨T1, n1, q1, T2, n2, hf1, hf2, hTT, hnn⟩ := fresh_split 256 b at_ (T := l.map Shp.made) (n := BB.length) (q := [80, 76, 77]) (by
    rw [← HBD.out.1, ← HBB.out, feed_shapes l HOK.out.1 [80, 76, 77], feed_seven [80, 76, 77] (by simp)]
    simp)
  have hq1 := (feed_len 256 _ (b.take at_) (Nat.le_refl _)).1
  have ht1 := (feed_len 256 _ (b.take at_) (Nat.le_refl _)).2.2
  rw [hf1] at hq1 ht1
  simp only at hq1 ht1
  have hbt : (b.take at_).length ≤ L := by rw [List.length_take, hbl]; omega
  have hty := own_take hro8 (by rw [List.length_append, hbl]; simp only [List.length_cons, List.length_nil]; omega) at_ (by rw [List.length_append, hbl]; omega)
  rw [List.take_append_of_le_length (by omega)] at hty
  have hb08 : Below w.heap.size w w8 := H2.out.1.trans ((H6.out.2.2.trans (HR8.out.1.mono (by omega))).mono (by omega))
  have HF1 := Lib.hid (feed_any w8 (FreshR.st HR8.out.2.1 (Nat.le_refl _)) hty (by simp only [List.length_nil]; omega) (by omega) (HOK.out.2.below hb08) (by omega) (by omega))
  rw [List.nil_append, hf1] at HF1
  have HRO8 := Lib.hid (And.intro hro8 hb08)
  have HFD := Lib.hid (And.intro hf2 (And.intro hTT hnn))
  have hai : (0 : Int) ≤ (at_ : Int) ∧ (at_ : Int) ≤ (cap6 : Int) := by omega
  have hqL : q1.length ≤ L ∧ n1 ≤ L ∧ T1.length ≤ L := by omega
  clear hro8 hty hb08 hf1 hf2 hTT hnn HIN hat hbt hq1 ht1
  go_wp2_with fail
  refine HF1.out.mono ?_
  rintro e w9 ⟨ov, ev, bp, vs1, rfl, hV⟩
  obtain rfl : ev = .nilIface := hV.err
  obtain rfl : bp = .pointer none := hV.bp
  have hs9 := hV.below.size
  have HV1 := Lib.hid hV
  clear hV HF1
  have hro9 : OwnB w4.heap.size w9 (.slice (some ⟨g6, 0, none⟩) (L + 3) cap6) (b ++ [201, 202, 203]) := (KX.of_below HV1.out.below).own HRO8.out.1 (fun j e => by have := ob_eq e; omega)
  have hob9 : OwnB w2.heap.size w9 (.slice (some ⟨g4, 0, none⟩) L cap4) b := (KX.of_below HV1.out.below).own (H6.out.2.1.under HR8.out.1) (fun j e => by have := ob_eq e; omega)
  have hbr9 := own_take hro9 (by rw [List.length_append, hbl]; simp only [List.length_cons, List.length_nil]; omega) L (by rw [List.length_append, hbl]; omega)
  rw [List.take_append_of_le_length (by omega), List.take_of_length_le (Nat.le_of_eq hbl)] at hbr9
  have HSM := Lib.hid (same_any w9 hbr9 (OwnB.bytes hob9 (by omega)))
  rw [decide_eq_true rfl] at HSM
  have HRO9 := Lib.hid hro9
  have hlo : (0 : Int) ≤ (L : Int) ∧ (L : Int) ≤ (cap6 : Int) := by omega
  have hix : (L : Int) < (L : Int) + 3 ∧ (L : Int) + 1 < (L : Int) + 3 ∧ (L : Int) + 2 < (L : Int) + 3 := by omega
  have hw2 : IntKind.i64.wrap ((L : Int) + 2) = (L : Int) + 2 := IntWalk.i64_in _ (by omega)
  clear hro9 hob9 hbr9
  go_wp2_with fail
  refine HSM.out.mono ?_
  rintro e w10 ⟨rfl, hb10⟩
  have hs10 := hb10.size
  have HB10 := Lib.hid hb10
  have hro10 : w10.ownsRow w4.heap.size 5 1 (.slice (some ⟨g6, 0, none⟩) (L + 3) cap6) (L + 3) ((b ++ [201, 202, 203]).map bv) := by
    have h := HRO9.out.under hb10
    unfold OwnB at h
    rw [List.length_append, hbl] at h
    exact h
  have hlen3 : ((b ++ [201, 202, 203]).map bv).length = L + 3 := by rw [List.length_map, List.length_append, hbl]; rfl
  have hgetL : ∀ j x, ([201, 202, 203] : List UInt8)[j]? = some x → w10.cell? ⟨g6, L + j, none⟩ = some (bv x) := fun j x hj => by
    have hjl := (List.getElem?_eq_some_iff.1 hj).1
    rw [World.ownsRow.cellAt hro10 (L + j) (by simp only [List.length_cons, List.length_nil] at hjl; omega), List.getElem?_map, List.getElem?_append_right (by omega), hbl, Nat.add_sub_cancel_left, hj]; rfl
  have y0 := hgetL 0 201 rfl
  have y1 := hgetL 1 202 rfl
  have y2 := hgetL 2 203 rfl
  rw [Nat.add_zero] at y0
  simp only [bv] at y0 y1 y2
  have HRO10 := Lib.hid hro10
  clear hb10 hro10 hgetL HSM
  obtain ⟨bm, hbm⟩ : ∃ bm, b ++ [201, 202, 203] = bm := ⟨_, rfl⟩
  rw [hbm] at HRO10 hlen3
  have hbml : bm.length = L + 3 := by rw [List.length_map] at hlen3; exact hlen3
  have HBM := Lib.hid hbm
  clear hlen3 hbm
  go_wp2_with fail
  clear y0 y1 y2
  go_loopw [15] (fun i W => ∃ j : Nat, j ≤ at_ ∧ i = .int .i64 j ∧ Hid (KX (fun x => x = g6) w10 W ∧ W.ownsRow w4.heap.size 5 1 (.slice (some ⟨g6, 0, none⟩) (L + 3) cap6) (L + 3) ((List.replicate j (238 : UInt8) ++ bm.drop j).map bv))) (fun i _ => at_ - (intOf i).toNat)
  case atStart => exact ⟨0, Nat.zero_le _, rfl, Lib.hid ⟨KX.refl _ _, by simpa using HRO10.out⟩⟩
  case round =>
    obtain ⟨j, hj, rfl, HR⟩ := hrel
    by_cases hja : j < at_
    · have hji : (j : Int) < (at_ : Int) ∧ (j : Int) < (L : Int) + 3 := by omega
      obtain ⟨st1, st2⟩ := World.ownsRow.stored HR.out.2 j (.int .u8 238)
      have f0 := World.ownsRow.frozenAt HR.out.2 j
      have hjm : j < bm.length := by omega
      obtain ⟨u0, hu0⟩ : ∃ u0, wr.cell? ⟨g6, j, none⟩ = some u0 := ⟨_, (World.ownsRow.cellAt HR.out.2 j (by omega)).trans (List.getElem?_eq_getElem (by rw [List.length_map, List.length_append, List.length_replicate, List.length_drop]; omega))⟩
      rw [show (Value.int .u8 238 : Value) = bv 238 from rfl, ← List.map_set, list_set_fill bm 238 j hjm] at st1
      have HST := Lib.hid (And.intro st1 st2)
      clear st1 st2
      go_wp2_with fail
      go_roundw
      · exact ⟨j + 1, hja, by simp, Lib.hid ⟨HR.out.1.trans ((KX.of_grown HST.out.2).weak fun x _ e => by cases e; rfl), HST.out.1⟩⟩
      · simp [intOf]; omega
    · have hje : j = at_ := by omega
      subst hje
      obtain ⟨w11, hw11⟩ : ∃ w11, w11 = wr := ⟨_, rfl⟩
      subst hw11
      have H11 := Lib.hid HR.out
      have hro11 : OwnB w4.heap.size w11 (.slice (some ⟨g6, 0, none⟩) (L + 3) cap6) (List.replicate j (238 : UInt8) ++ bm.drop j) := by
        unfold OwnB
        rw [show (List.replicate j (238 : UInt8) ++ bm.drop j).length = L + 3 by rw [List.length_append, List.length_replicate, List.length_drop]; omega]
        exact H11.out.2
      have hmid := own_mid hro11 (by rw [List.length_append, List.length_replicate, List.length_drop]; omega) j L hatL (by rw [List.length_append, List.length_replicate, List.length_drop]; omega)
      rw [show ((List.replicate j (238 : UInt8) ++ bm.drop j).take L).drop j = b.drop j by rw [← HBM.out, ← hbl]; exact fill_mid b _ _ j (by omega)] at hmid
      have hcj : ¬ cap6 = j := by omega
      rw [if_neg hcj] at hmid
      -- what the first feed left, at w11
      have hk911 : KX (fun x => x = g6) w9 w11 := (KX.of_new HB10.out _).trans H11.out.1
      have hst11 : IsSt w6.heap.size w11 w6.heap.size 256 q1 n1 T1.length (.pointer none) := by
        have h := HV1.out.st
        simp only [Int.zero_add] at h
        obtain ⟨wv, m1, m2⟩ := h.mem
        exact h.kept hk911.size (hk911.block _ (by omega) (by omega)) fun u x hu hx => by
          have hl := h.mem
          obtain ⟨wv', m1', m2'⟩ := hl
          have hc := cell_row (cs := [_, _, _, _, _]) (j := 1) m1' rfl
          rw [hc] at hu
          cases hu
          have hown := m2'.own x hx
          exact hk911.block x hown.2.2 (by omega)
      have hb011 : Below w.heap.size w w11 := by
        have h9 : Below w.heap.size w w9 := HRO8.out.2.trans (HV1.out.below.mono (by omega))
        exact h9.trans (hk911.below (by omega) fun x hx e => by omega)
      have hs11 := hk911.size
      have HF2 := Lib.hid (feed_any w11 hst11 hmid (by rw [List.length_drop]; omega) (by omega) (HOK.out.2.below hb011) (by omega) (by omega))
      rw [HFD.out.1] at HF2
      have H11b := Lib.hid (And.intro hk911 (And.intro hb011 hro11))
      have hji2 : (0 : Int) ≤ (j : Int) ∧ (j : Int) ≤ (L : Int) ∧ (L : Int) ≤ (cap6 : Int) := by omega
      clear hro11 hmid hk911 hst11 hb011
      go_wp2_with fail
      refine HF2.out.mono ?_
      rintro e w12 ⟨ov2, ev, bp, vs2, rfl, hV⟩
      obtain rfl : ev = .nilIface := hV.err
      obtain rfl : bp = .pointer none := hV.bp
      have hs12 := hV.below.size
      have HV2 := Lib.hid hV
      have hro12 : w12.ownsRow w4.heap.size 5 1 (.slice (some ⟨g6, 0, none⟩) (L + 3) cap6) (L + 3) ((List.replicate j (238 : UInt8) ++ bm.drop j).map bv) := (KX.of_below hV.below).own H11.out.2 (fun x e => by have := ob_eq e; omega)
      have HRO12 := Lib.hid hro12
      clear hV HF2 hro12
      go_wp2_with fail
      go_loopw [18] (fun i W => ∃ m : Nat, j ≤ m ∧ m ≤ L + 3 ∧ i = .int .i64 m ∧ Hid (KX (fun x => x = g6) w12 W ∧ ∃ xs, W.ownsRow w4.heap.size 5 1 (.slice (some ⟨g6, 0, none⟩) (L + 3) cap6) (L + 3) xs)) (fun i _ => L + 3 - (intOf i).toNat)
      case atStart => exact ⟨j, Nat.le_refl _, by omega, rfl, Lib.hid ⟨KX.refl _ _, _, HRO12.out⟩⟩
      case round =>
        obtain ⟨m, hjm, hm, rfl, HR⟩ := hrel
        by_cases hml : m < L + 3
        · have hmi : (m : Int) < (L : Int) + 3 := by omega
          obtain ⟨xs, hxs⟩ := HR.out.2
          obtain ⟨st1, st2⟩ := World.ownsRow.stored hxs m (.int .u8 238)
          have f0 := World.ownsRow.frozenAt hxs m
          obtain ⟨u0, hu0⟩ : ∃ u0, wr.cell? ⟨g6, m, none⟩ = some u0 := ⟨_, (World.ownsRow.cellAt hxs m (by omega)).trans (List.getElem?_eq_getElem (by rw [hxs.1]; omega))⟩
          have HST := Lib.hid (And.intro st1 st2)
          clear st1 st2 hxs
          go_wp2_with fail
          go_roundw
          · exact ⟨m + 1, by omega, hml, by simp, Lib.hid ⟨HR.out.1.trans ((KX.of_grown HST.out.2).weak fun x _ e => by cases e; rfl), _, HST.out.1⟩⟩
          · simp [intOf]; omega
        · have hme : m = L + 3 := by omega
          subst hme
          obtain ⟨w13, hw13⟩ : ∃ w13, w13 = wr := ⟨_, rfl⟩
          subst hw13
          have hk1213 := HR.out.1
          have hs13 := hk1213.size
          -- what stands since the reader's first feed
          have hkA : ∀ x, AptS w9 w6.heap.size x → w8.heap.size ≤ x → w13.heap[x]? = w9.heap[x]? ∧ AptS w12 w6.heap.size x := fun x hx h8 => by
            have h11 : AptS w11 w6.heap.size x := ⟨Nat.lt_of_lt_of_le hx.1 H11b.out.1.size, hx.2.1, fun u hu => hx.2.2 u (by rw [← World.cell?_of_block (a := ⟨w6.heap.size, 1, none⟩) (H11b.out.1.block w6.heap.size (by omega) (by omega))]; exact hu)⟩
            obtain ⟨k1, k2⟩ := HV2.out.keep x h11
            exact ⟨(hk1213.block x k2.1 (by omega)).trans (k1.trans (H11b.out.1.block x hx.1 (by omega))), k2⟩
          have hna1 : IsNA (fun x => w8.heap.size ≤ x ∧ x < w12.heap.size) w13 T1 vs1 := (HV1.out.na.keeps (w' := w13) fun x o hx ho _ => (hkA x hx.1 hx.2).1.trans ho).mono fun x _ hx => ⟨hx.2, (hkA x hx.1 hx.2).2.1⟩
          have hna2 : IsNA (fun x => w8.heap.size ≤ x ∧ x < w12.heap.size) w13 T2 vs2 := (HV2.out.na.keeps (w' := w13) fun x o hx ho _ => (hk1213.block x hx.1.1 (by have := hx.2; omega)).trans ho).mono fun x _ hx => ⟨by have := hx.2; omega, hx.1.1⟩
          have hna : IsNA (fun x => w8.heap.size ≤ x ∧ x < w12.heap.size) w13 (l.map Shp.made) (vs1 ++ vs2) := by
            rw [← HFD.out.2.1]
            exact hna1.append hna2 fun x h1 h2 => by
              have g1 := (HV1.out.na.1.lines x h1).2
              have g2 := (HV2.out.na.1.lines x h2).1.2
              omega
          have hTn : T1.length + T2.length = l.length := by rw [← List.length_append, HFD.out.2.1, List.length_map]
          have hsl1 : Sl (fun _ => True) w13 ov T1.length vs1 := (HV1.out.sl.keeps (w' := w13) fun x o hx ho _ => (hkA x hx.1 hx.2).1.trans ho).mono fun _ _ _ => trivial
          have hsl2 : Sl (fun _ => True) w13 ov2 T2.length vs2 := (HV2.out.sl.keeps (w' := w13) fun x o hx ho _ => (hk1213.block x hx.1.1 (by have := hx.2; omega)).trans ho).mono fun _ _ _ => trivial
          -- the old things, and the readers, at w13
          have hb613 : KX (fun x => w6.heap.size ≤ x ∨ x = g6) w6 w13 := by
            have h1 : KX (fun x => w6.heap.size ≤ x ∨ x = g6) w6 w9 := (KX.of_new (HR8.out.1) _).then (KX.of_below HV1.out.below) (fun _ _ e => e) (fun _ _ e => .inl e)
            have h2 : KX (fun x => w6.heap.size ≤ x ∨ x = g6) w6 w11 := h1.then H11b.out.1 (fun _ _ e => e) (fun _ _ e => .inr e)
            have h3 : KX (fun x => w6.heap.size ≤ x ∨ x = g6) w6 w12 := h2.then (KX.of_below HV2.out.below) (fun _ _ e => e) (fun _ _ e => .inl e)
            exact h3.then hk1213 (fun _ _ e => e) (fun _ _ e => .inr e)
          have hb113 : Below w1.heap.size w1 w13 := (H2.out.2.trans (H6.out.2.2.mono hs2)).trans (hb613.below (by omega) fun x hx e => by rcases e with e | e <;> omega)
          have hq13 : FreshR w13 w7.heap.size 256 ∧ AptS w12 w6.heap.size w7.heap.size := by
            have a8 : AptS w8 w6.heap.size w7.heap.size := HR8.out.2.1.apt hr8 (by omega)
            obtain ⟨k1, k2⟩ := HV1.out.keep _ a8
            have a11 : AptS w11 w6.heap.size w7.heap.size := ⟨Nat.lt_of_lt_of_le k2.1 H11b.out.1.size, k2.2.1, fun u hu => k2.2.2 u (by rw [← World.cell?_of_block (a := ⟨w6.heap.size, 1, none⟩) (H11b.out.1.block w6.heap.size (by omega) (by omega))]; exact hu)⟩
            obtain ⟨k3, k4⟩ := HV2.out.keep _ a11
            exact ⟨(hk1213.block _ k4.1 (by omega)).trans (k3.trans ((H11b.out.1.block _ k2.1 (by omega)).trans (k1.trans HR8.out.2.2))), k4⟩
          have hst13 : IsSt w6.heap.size w13 w6.heap.size 256 [80, 76, 77] (n1 + n2) (T1.length + T2.length) (.pointer none) := by
            have h := HV2.out.st
            obtain ⟨wv', m1', m2'⟩ := h.mem
            exact h.kept hk1213.size (hk1213.block _ (by omega) (by omega)) fun u x hu hx => by
              have hc := cell_row (cs := [_, _, _, _, _]) (j := 1) m1' rfl
              rw [hc] at hu
              cases hu
              have hown := m2'.own x hx
              exact hk1213.block x hown.2.2 (by omega)
          obtain ⟨wE, hwE⟩ : ∃ wE, wE = w13.alloc (.cells #[] 51) := ⟨_, rfl⟩
          have hbE : Below w13.heap.size w13 wE := by subst hwE; exact (Below.refl _ _).alloc (Nat.le_refl _) _
          have hoE : wE.ownsRow w13.heap.size 51 4 (.slice (some ⟨w13.heap.size, 0, none⟩) 0 0) 0 [] := by subst hwE; exact ⟨rfl, .inr ⟨w13.heap.size, 0, #[], rfl, Nat.le_refl _, World.alloc_heap_new w13 _, Nat.le_refl _, by simp, rfl, rfl⟩⟩
          have h1c : (∀ u ∈ vs1, u.oneCell' = true) ∧ (∀ u ∈ vs2, u.oneCell' = true) := ⟨geoms_one hna1.1.toGs, geoms_one hna2.1.toGs⟩
          have HE := Lib.hid (And.intro hbE (And.intro hoE (And.intro (hsl1.keeps (below_keeps hbE _)) (And.intro h1c (And.intro hna1.1.len hna2.1.len)))))
          have HSL2 := Lib.hid hsl2
          have H13 := Lib.hid (And.intro hna (And.intro hb613 (And.intro hb113 (And.intro hq13 hst13))))
          clear hna hna1 hna2 hsl1 hsl2 hb613 hb113 hq13 hst13 hbE hoE h1c hkA hk1213 HR
          go_upto_region 25 with (first
            | (at_builtin
               refine list_append_gs rfl (.tmp 151) (.tmp 152) rfl r14 ov2 (by rfl) (by rfl) HR14.out.1 HR14.out.2.1 (by rw [HE.out.2.2.2.2.2]; omega) HE.out.2.2.2.1.2 (by omega) HR14.out.2.2.size ?_
               intro r15 w15 ho15 hgr15 hg15
               have HR15 := Lib.hid (And.intro ho15 (HR14.out.2.2.grown hgr15 HR14.out.2.2.size (fun x e => (World.ownsRow.lt HR14.out.1 x e).1)))
               clear ho15 hgr15 hg15)
            | (rw [← hwE]
               clear hwE
               at_builtin
               go_must (
                refine list_append_gs rfl (.tmp 149) (.tmp 150) rfl (.slice (some ⟨w13.heap.size, 0, none⟩) 0 0) ov (by rfl) (by rfl) HE.out.2.1 HE.out.2.2.1 (by rw [HE.out.2.2.2.2.1]; omega) HE.out.2.2.2.1.1 (by omega) HE.out.1.size ?_
                intro r14 w14 ho14 hgr14 hg14
                rw [List.nil_append, Nat.zero_add] at ho14
                have hb14 : Below w13.heap.size w13 w14 := HE.out.1.grown hgr14 HE.out.1.size (fun x e => (World.ownsRow.lt HE.out.2.1 x e).1)
                have HR14 := Lib.hid (And.intro ho14 (And.intro (HSL2.out.keeps (below_keeps hb14 _)) hb14))
                clear ho14 hgr14 hg14 hb14))
            | fail)
          rw [hTn] at HR15
          obtain ⟨GA, gc, rfl⟩ := own_shape HR15.out.1
          have hlm : (l.map Shp.made).length = l.length := List.length_map _
          have hs15 := HR15.out.2.size
          have hb115 : Below w1.heap.size w1 w15 := H13.out.2.2.1.trans (HR15.out.2.mono H13.out.2.2.1.size)
          have hna15 := H13.out.1.keeps (below_keeps HR15.out.2 _)
          have htsl : Sl (fun _ => True) w15 (.slice TA l.length tc) (l.map Shp.made).length vs := by rw [hlm]; exact ((Sl.of_own HU.out.tsl (by omega)).keeps (below_keeps hb115 _)).mono fun _ _ _ => trivial
          have hgsl : Sl (fun _ => True) w15 (.slice GA l.length gc) (l.map Shp.made).length (vs1 ++ vs2) := by rw [hlm]; exact (Sl.of_own HR15.out.1 (by omega)).mono fun _ _ _ => trivial
          have HEQ := Lib.hid (equal_any w15 hgsl (hna15.1.toGs.mono fun _ _ _ => trivial) htsl ((HU.out.tgs.keeps (below_keeps hb115 _)).mono fun _ _ _ => trivial))
          obtain ⟨vg, hvg⟩ : ∃ vg, vs1 ++ vs2 = vg := ⟨_, rfl⟩
          rw [hvg] at HR15 hna15
          have H15 := Lib.hid (And.intro hna15 (And.intro hb115 HR15.out))
          have hq15 : FreshR w15 w7.heap.size 256 := (HR15.out.2.block _ (by have := H13.out.2.2.2.1.2.1; omega)).trans H13.out.2.2.2.1.1
          have hst15 := H13.out.2.2.2.2.below HR15.out.2
          have HS15 := Lib.hid (And.intro hq15 hst15)
          clear hb115 hna15 htsl hgsl hvg hq15 hst15 HR15
          go_wp2_with fail
          refine HEQ.out.mono ?_
          rintro e w16 ⟨rfl, hb16⟩
          have hq16 : FreshR w16 w7.heap.size 256 := (hb16.block _ (lt_of_heap HS15.out.1)).trans HS15.out.1
          have hst16 := HS15.out.2.below hb16
          have HW1 := Lib.hid (Waiting_any w16 (FreshR.st hq16 (Nat.le_refl _)))
          have HW2 := Lib.hid (Count_any w16 (FreshR.st hq16 (Nat.le_refl _)))
          have HW3 := Lib.hid (Waiting_any w16 hst16)
          have hs16 := hb16.size
          have H16 := Lib.hid (And.intro hb16 (And.intro hq16 hst16))
          clear hb16 hq16 hst16 HS15 HEQ
          go_wp2_with fail
          refine HW1.out.mono ?_
          rintro e w' ⟨rfl, rfl⟩
          go_wp2_with fail
          refine HW2.out.mono ?_
          rintro e w' ⟨rfl, rfl⟩
          go_wp2_with fail
          refine HW3.out.mono ?_
          rintro e w' ⟨rfl, rfl⟩
          have HN16 : Hid (IsNA (fun x => w8.heap.size ≤ x ∧ x < w12.heap.size) w16 (l.map Shp.made) vg) := Lib.hid (H15.out.1.keeps (below_keeps H16.out.1 _))
          have HG16 : Hid (w16.ownsRow w13.heap.size 51 4 (.slice GA l.length gc) l.length vg) := Lib.hid (ownsRow_below H15.out.2.2.1 H16.out.1)
          clear HW1 HW2 HW3
          go_wp2_with fail
          go_loopw [20] (fun i W => ∃ m : Nat, m ≤ l.length ∧ i = .int .i64 m ∧ Hid (DSt (l.map Shp.made) vg w16 m W)) (fun i _ => l.length - (intOf i).toNat)
          case atStart => exact ⟨0, Nat.zero_le _, rfl, Lib.hid (DSt.start HN16.out)⟩
          case round =>
            obtain ⟨m, hm, rfl, HD⟩ := hrel
            by_cases hml : m < l.length
            · obtain ⟨x, hx⟩ : ∃ x, (l.map Shp.made)[m]? = some x := ⟨_, List.getElem?_eq_getElem (by rw [hlm]; exact hml)⟩
              obtain ⟨kx, v1, A2, m2', c2, v3, ps, hat, ho1, ho3, hbk1, hbk3⟩ := DSt.round HN16.out HD.out hx
              obtain ⟨D1, d1, rfl⟩ := own_shape ho1
              obtain ⟨D3, d3, rfl⟩ := own_shape ho3
              obtain ⟨gb, gc', hge, hgb1, hgb2, hgc⟩ := own_cellsF HG16.out (by omega)
              simp only [Value.slice.injEq, true_and] at hge
              obtain ⟨rfl, rfl⟩ := hge
              have hgbX : ¬ TB vg (m + 1) gb := fun e => by have := (TB.isOk HN16.out e).2; omega
              have hTB1 : ∀ y, (Value.slice D1 x.line.length d1).ownBlock = some y → TB vg (m + 1) y := fun y e => ⟨m, _, by omega, .inl (hat 1 _ rfl), e⟩
              have hTB3 : ∀ y, (Value.slice D3 x.parts.length d3).ownBlock = some y → TB vg (m + 1) y := fun y e => ⟨m, _, by omega, .inr (hat 3 _ rfl), e⟩
              have HGC : Hid (∀ W, KX (TB vg (m + 1)) w16 W → W.cell? ⟨gb, m * 4 + 1, none⟩ = some (.slice D1 x.line.length d1) ∧ W.cell? ⟨gb, m * 4 + 3, none⟩ = some (.slice D3 x.parts.length d3)) := Lib.hid fun W hW =>
                ⟨hW.cell (hgc _ _ (hat 1 _ rfl)) hgbX, hW.cell (hgc _ _ (hat 3 _ rfl)) hgbX⟩
              have hkx0 : KX (TB vg (m + 1)) w16 wr := HD.out.kx.weak fun y _ ⟨j', u', h1, h2, h3⟩ => ⟨j', u', by omega, h2, h3⟩
              have HK0 := Lib.hid (And.intro hkx0 (And.intro hTB1 hTB3))
              have HO := Lib.hid (And.intro ho1 (And.intro ho3 (And.intro hat hx)))
              have hmi : (m : Int) < (l.length : Int) := by omega
              obtain ⟨c1, c3⟩ := HGC.out wr hkx0
              have hnl : x.line.length ≤ 65536 := by
                obtain ⟨s, hs, rfl⟩ := List.mem_map.1 (List.mem_of_getElem? hx)
                exact Nat.le_trans (line_weight s.made) (Nat.le_trans (made_weight s) (by decide))
              have hnp : x.parts.length ≤ 65536 := by
                obtain ⟨s, hs, rfl⟩ := List.mem_map.1 (List.mem_of_getElem? hx)
                exact Nat.le_trans (parts_weight s.made) (Nat.le_trans (made_weight s) (by decide))
              clear hat ho1 ho3 hgc hkx0 hTB1 hTB3 hx hgbX hbk1 hbk3
              obtain ⟨wo, hwo⟩ : ∃ wo, wo = wr := ⟨_, rfl⟩
              subst hwo
              go_wp2_with fail
              clear c1 c3
              go_loopw [21] (fun i W => ∃ q : Nat, q ≤ x.line.length ∧ i = .int .i64 q ∧ Hid (KX (fun y => (Value.slice D1 x.line.length d1).ownBlock = some y) wo W ∧ W.ownsRow 0 71 2 (.slice D1 x.line.length d1) x.line.length (ptCells (List.replicate q ((7, 0) : Pt) ++ x.line.drop q)))) (fun i _ => x.line.length - (intOf i).toNat)
              case atStart => exact ⟨0, Nat.zero_le _, rfl, Lib.hid ⟨KX.refl _ _, by simpa using HO.out.1⟩⟩
              case round =>
                obtain ⟨q, hq, rfl, HR⟩ := hrel
                have hkA : KX (TB vg (m + 1)) w16 wr := HK0.out.1.then HR.out.1 (fun _ _ e => e) (fun y _ e => HK0.out.2.1 y e)
                obtain ⟨c1, c3⟩ := HGC.out wr hkA
                by_cases hql : q < x.line.length
                · obtain ⟨g1, d1', hge, _, hg1, hcell⟩ := own_cellsF HR.out.2 (by omega)
                  simp only [Value.slice.injEq, true_and] at hge
                  obtain ⟨rfl, rfl⟩ := hge
                  obtain ⟨p, hp⟩ : ∃ p, (List.replicate q ((7, 0) : Pt) ++ x.line.drop q)[q]? = some p := ⟨_, List.getElem?_eq_getElem (by rw [List.length_append, List.length_replicate, List.length_drop]; omega)⟩
                  have hpt := ptCells_at _ q p hp
                  have z0 := hcell _ _ hpt.1
                  have z1 := hcell _ _ hpt.2
                  have f0 := World.ownsRow.frozenAt HR.out.2 (q * 2)
                  have f1 := World.ownsRow.frozenAt HR.out.2 (q * 2 + 1)
                  have st1 := World.ownsRow.stored HR.out.2 (q * 2) (.int .u64 7)
                  have st2 := World.ownsRow.stored st1.1 (q * 2 + 1) (.int .u64 0)
                  have st3 := st2.1
                  rw [show ((ptCells (List.replicate q ((7, 0) : Pt) ++ x.line.drop q)).set (q * 2) (.int .u64 7)).set (q * 2 + 1) (.int .u64 0) = ptCells ((List.replicate q ((7, 0) : Pt) ++ x.line.drop q).set q (7, 0)) from pt_set1 _ q 7 0, list_set_fill x.line _ q hql] at st3
                  have HST := Lib.hid (And.intro st3 ((KX.of_grown st1.2).trans ((KX.of_grown st2.2))))
                  have hqi : (q : Int) < (x.line.length : Int) := by omega
                  clear st1 st2 st3 hpt hcell hp hkA
                  go_wp2_with fail
                  go_roundw
                  · exact ⟨q + 1, hql, by simp, Lib.hid ⟨HR.out.1.trans (HST.out.2.weak fun y _ e => by cases e; rfl), HST.out.1⟩⟩
                  · simp [intOf]; omega
                · have hqe : q = x.line.length := by omega
                  subst hqe
                  obtain ⟨wa, hwa⟩ : ∃ wa, wa = wr := ⟨_, rfl⟩
                  subst hwa
                  have hrA := HR.out.2
                  rw [List.drop_length, List.append_nil] at hrA
                  have HA := Lib.hid (And.intro hkA (And.intro hrA HR.out.1))
                  have hsA := HR.out.1.size
                  clear hrA hkA HR
                  go_wp2_with fail
                  go_loopw [22, 23] (fun gr c W => ∃ (z : Nat) (E : Option Addr) (ec : Nat), z ≤ 30 ∧ c = .int .i64 z ∧ gr = .slice E (x.line.length + z) ec ∧ Hid (KX (fun y => (Value.slice D1 x.line.length d1).ownBlock = some y) wa W ∧ W.ownsRow 0 71 2 gr (x.line.length + z) (ptCells (List.replicate x.line.length ((7, 0) : Pt) ++ List.replicate z ((0, 8) : Pt))) ∧
                      (∀ y, gr.ownBlock = some y → (Value.slice D1 x.line.length d1).ownBlock = some y ∨ wa.heap.size ≤ y) ∧ (∀ y, (Value.slice D1 x.line.length d1).ownBlock = some y → ∀ i u, (ptCells (List.replicate x.line.length ((7, 0) : Pt)))[i]? = some u → W.cell? ⟨y, i, none⟩ = some u))) (fun _ c _ => 30 - (intOf c).toNat)
                  case atStart =>
                    refine ⟨0, D1, d1, by omega, rfl, rfl, Lib.hid ⟨KX.refl _ _, by simpa using HA.out.2.1, fun y e => .inl e, fun y e i u hu => ?_⟩⟩
                    have := World.ownsRow.cells HA.out.2.1 e i u hu
                    rwa [add0] at this
                  case round =>
                    obtain ⟨z, E, ec, hz, rfl, rfl, HR⟩ := hrel
                    by_cases hzl : z < 30
                    · have hzi : (z : Int) < 30 := by omega
                      obtain ⟨wz, hwz⟩ : ∃ wz, wz = wr.alloc (.cells #[.int .u64 0, .int .u64 8] 71) := ⟨_, rfl⟩
                      have hbz : Below wr.heap.size wr wz := by subst hwz; exact (Below.refl _ _).alloc (Nat.le_refl _) _
                      have hxz : wz.heap[wr.heap.size]? = some (.cells #[.int .u64 0, .int .u64 8] 71 (0, 0)) := by subst hwz; exact World.alloc_heap_new _ _
                      have HZ := Lib.hid (And.intro hbz (And.intro hxz (ownsRow_below HR.out.2.1 hbz)))
                      clear hbz hxz
                      go_wp2_with (first
                        | (rw [← hwz]
                           clear hwz
                           at_builtin
                           go_must (
                            refine keep_pt rfl (.tmp 210) (.tmp 212) rfl (.slice E (x.line.length + z) ec) (by rfl) (by rfl) HZ.out.2.2 HZ.out.2.1 rfl rfl (by omega) (Nat.zero_le _) ?_
                            intro r5 w5 ho5 hgr5 hg5 hk5
                            obtain ⟨E5, e5, rfl⟩ := own_shape ho5
                            have HR5 := Lib.hid (And.intro ho5 (And.intro hgr5 (And.intro hg5 hk5)))
                            clear ho5 hgr5 hg5 hk5)))
                      go_roundw
                      · refine ⟨z + 1, E5, e5, hzl, by simp, rfl, Lib.hid ⟨?_, ?_, fun y e => ?_, fun y e i u hu => ?_⟩⟩
                        · exact (HR.out.1.trans (KX.of_new HZ.out.1 _)).then (KX.of_grown HR5.out.2.1) (fun _ _ e => e) (fun y hy e => (HR.out.2.2.1 y e).elim id fun h => by omega)
                        · have h := HR5.out.1
                          rw [List.replicate_succ', ← List.append_assoc, ptCells_append]
                          exact h
                        · rcases HR5.out.2.2.1 y e with h | h
                          · exact HR.out.2.2.1 y h
                          · have := HR.out.1.size; have := HZ.out.1.size; exact .inr (by omega)
                        · have hc := HR.out.2.2.2 y e i u hu
                          by_cases hy : (Value.slice E (x.line.length + z) ec).ownBlock = some y
                          · refine HR5.out.2.2.2 y hy i u ?_
                            rw [ptCells_append, List.getElem?_append_left (List.getElem?_eq_some_iff.1 hu).1]; exact hu
                          · have hyl := lt_of_cell hc
                            exact (World.cell?_of_block (a := ⟨y, i, none⟩) (HR5.out.2.1.block y (Nat.lt_of_lt_of_le hyl HZ.out.1.size) (fun e' => hy e'.symm))).trans ((HZ.out.1.cell (p := ⟨y, i, none⟩) hyl).trans hc)
                      · simp [intOf]; omega
                    · have hze : z = 30 := by omega
                      subst hze
                      obtain ⟨wb, hwb⟩ : ∃ wb, wb = wr := ⟨_, rfl⟩
                      subst hwb
                      have hkob : KX (fun y => (Value.slice D1 x.line.length d1).ownBlock = some y) wo wb := HA.out.2.2.trans HR.out.1
                      have hkB : KX (TB vg (m + 1)) w16 wb := HA.out.1.then HR.out.1 (fun _ _ e => e) (fun y _ e => HK0.out.2.1 y e)
                      have hpB := HD.out.parts.line HO.out.1 hkob
                      have hap := fun y (e : (Value.slice D3 x.parts.length d3).ownBlock = some y) => own_apart HO.out.2.1 HO.out.1 (by decide) e
                      have ho3b := hkob.own HO.out.2.1 hap
                      have HBB2 := Lib.hid (And.intro hkB (And.intro hkob (And.intro hpB (And.intro ho3b (And.intro hap HR.out.2.2.2)))))
                      have hsB := HR.out.1.size
                      have hn30 : ¬ (x.line.length : Int) + 30 < 30 := by omega
                      clear hkB hpB ho3b hap HR hkob
                      go_wp2_with fail
                      go_loopw [24] (fun i W => ∃ q : Nat, q ≤ x.parts.length ∧ i = .int .i64 q ∧ Hid (KX (fun y => (Value.slice D3 x.parts.length d3).ownBlock = some y) wb W ∧ PartsOk W (l.map Shp.made) vg ∧ ∃ ps, W.ownsRow 0 51 4 (.slice D3 x.parts.length d3) x.parts.length ps)) (fun i _ => x.parts.length - (intOf i).toNat)
                      case atStart => exact ⟨0, Nat.zero_le _, rfl, Lib.hid ⟨KX.refl _ _, HBB2.out.2.2.1, _, HBB2.out.2.2.2.1⟩⟩
                      case round =>
                        obtain ⟨q, hq, rfl, HR⟩ := hrel
                        have hkC : KX (TB vg (m + 1)) w16 wr := HBB2.out.1.then HR.out.1 (fun _ _ e => e) (fun y _ e => HK0.out.2.2 y e)
                        obtain ⟨c1, c3⟩ := HGC.out wr hkC
                        by_cases hql : q < x.parts.length
                        · obtain ⟨ps', hps⟩ := HR.out.2.2
                          obtain ⟨g3, d3', hge, _, hg3, hcell⟩ := own_cellsF hps (by omega)
                          simp only [Value.slice.injEq, true_and] at hge
                          obtain ⟨rfl, rfl⟩ := hge
                          have hget : ∀ i, i < 4 → ∃ u, wr.cell? ⟨g3, q * 4 + i, none⟩ = some u := fun i hi => ⟨_, hcell _ _ (List.getElem?_eq_getElem (by rw [hps.1]; omega))⟩
                          obtain ⟨b0, z0⟩ := hget 0 (by omega)
                          obtain ⟨b1, z1⟩ := hget 1 (by omega)
                          obtain ⟨b2, z2⟩ := hget 2 (by omega)
                          obtain ⟨b3, z3⟩ := hget 3 (by omega)
                          rw [Nat.add_zero] at z0
                          have f0 := World.ownsRow.frozenAt hps (q * 4)
                          have f1 := World.ownsRow.frozenAt hps (q * 4 + 1)
                          have f2 := World.ownsRow.frozenAt hps (q * 4 + 2)
                          have f3 := World.ownsRow.frozenAt hps (q * 4 + 3)
                          have t1 := World.ownsRow.stored hps (q * 4) (.int .i64 9)
                          have t2 := World.ownsRow.stored t1.1 (q * 4 + 1) (.slice none 0 0)
                          have t3 := World.ownsRow.stored t2.1 (q * 4 + 2) (.slice none 0 0)
                          have t4 := World.ownsRow.stored t3.1 (q * 4 + 3) (.slice none 0 0)
                          have HST := Lib.hid (And.intro t4.1 (And.intro ((((KX.of_grown t1.2).trans (KX.of_grown t2.2)).trans (KX.of_grown t3.2)).trans (KX.of_grown t4.2)) ((((HR.out.2.1.set g3 (q * 4) (.int .i64 9)).set g3 (q * 4 + 1) (.slice none 0 0)).set g3 (q * 4 + 2) (.slice none 0 0)).set g3 (q * 4 + 3) (.slice none 0 0))))
                          have hqi : (q : Int) < (x.parts.length : Int) := by omega
                          clear t1 t2 t3 t4 hget hcell hps hkC
                          go_wp2_with fail
                          go_roundw
                          · exact ⟨q + 1, hql, by simp, Lib.hid ⟨HR.out.1.trans (HST.out.2.1.weak fun y _ e => by cases e; rfl), HST.out.2.2, _, HST.out.1⟩⟩
                          · simp [intOf]; omega
                        · have hqe : q = x.parts.length := by omega
                          subst hqe
                          have HRC := Lib.hid HR.out
                          clear HR hkC
                          go_wp2_with fail
                          go_roundw
                          · refine ⟨m + 1, hml, by simp, Lib.hid (HD.out.next HN16.out HO.out.2.2.2 HO.out.2.2.1 (HBB2.out.2.1.then HRC.out.1 (fun _ _ e => .inl e) (fun _ _ e => .inr e)) ?_ HRC.out.2.1)⟩
                            intro g n c hv i hi
                            have hq := HO.out.2.2.1 1 _ rfl
                            rw [hv] at hq
                            simp only [Option.some.injEq, Value.slice.injEq] at hq
                            obtain ⟨rfl, rfl, rfl⟩ := hq
                            have hpt := ptCells_at (List.replicate x.line.length ((7, 0) : Pt)) i (7, 0) (by rw [List.getElem?_replicate, if_pos hi])
                            have k0 := HBB2.out.2.2.2.2.2 g rfl _ _ hpt.1
                            have k1 := HBB2.out.2.2.2.2.2 g rfl _ _ hpt.2
                            have hne : ¬ (Value.slice D3 x.parts.length d3).ownBlock = some g := fun e => HBB2.out.2.2.2.2.1 g e rfl
                            exact ⟨HRC.out.1.cell k0 hne, HRC.out.1.cell k1 hne⟩
                          · simp [intOf]; omega
            · have hme : m = l.length := by omega
              subst hme
              obtain ⟨w17, hw17⟩ : ∃ w17, w17 = wr := ⟨_, rfl⟩
              subst hw17
              have hs17 := HD.out.kx.size
              have hkA : KX (fun y => w8.heap.size ≤ y) w16 w17 := HD.out.kx.weak fun y _ e => (TB.isOk HN16.out e).1
              have hb116 : Below w1.heap.size w1 w16 := H15.out.2.1.trans (H16.out.1.mono H15.out.2.1.size)
              have hb117 : Below w1.heap.size w1 w17 := hb116.trans (hkA.below hb116.size fun y hy e => by omega)
              have hob17 : OwnB w2.heap.size w17 (.slice (some ⟨g4, 0, none⟩) L cap4) b := by
                have h13 := H13.out.2.1.own H6.out.2.1 (fun y e => by have := ob_eq e; rintro (h | h) <;> omega)
                exact hkA.own (ownsRow_below (ownsRow_below h13 H15.out.2.2.2) H16.out.1) (fun y e => by have := ob_eq e; omega)
              have hq17 : FreshR w17 w7.heap.size 256 := (hkA.block _ (lt_of_heap H16.out.2.1) (by omega)).trans H16.out.2.1
              have hg17 : ErrT w17 := HOK.out.2.below (HU.out.below.trans (hb117.mono hs1))
              have hbtk : b.take ((L : Int)).toNat = b := List.take_of_length_le (by omega)
              have HCU := Lib.hid (cut_any (L : Int) w17 (OwnB.bytes hob17 (by omega)))
              rw [hbtk] at HCU
              have H17 := Lib.hid (And.intro hb117 (And.intro hq17 hg17))
              clear hb116 hb117 hob17 hq17 hg17 hbtk hkA
              go_wp2_with fail
              refine HCU.out.mono ?_
              rintro e w18 ⟨r18, rfl, ho18, hb18⟩
              have hs18 := hb18.size
              have hq18 : FreshR w18 w7.heap.size 256 := (hb18.block _ (lt_of_heap H17.out.2.1)).trans H17.out.2.1
              have HF3 := Lib.hid (feed_any w18 (FreshR.st hq18 (Nat.le_refl _)) (OwnB.bytes ho18 (by omega)) (by simp only [List.length_nil]; omega) (by omega) (H17.out.2.2.below hb18) (by omega) (by omega))
              rw [List.nil_append, show feed 256 b = (l.map Shp.made, BB.length, [80, 76, 77], none) by
                rw [← HBD.out.1, ← HBB.out, feed_shapes l HOK.out.1 [80, 76, 77], feed_seven [80, 76, 77] (by simp)]
                simp] at HF3
              have H18 := Lib.hid (And.intro hb18 hq18)
              clear ho18 hb18 hq18
              go_wp2_with fail
              refine HF3.out.mono ?_
              rintro e w19 ⟨ov3, ev, bp, vs3, rfl, hV⟩
              obtain rfl : ev = .nilIface := hV.err
              have hs19 := hV.below.size
              have hk1719 : KX (fun y => y = w7.heap.size) w17 w19 := ⟨hV.below.os.trans H18.out.1.os, hV.below.tape.trans H18.out.1.tape, hV.below.output.trans H18.out.1.output, Nat.le_trans hs18 hs19, fun y hy hn =>
                (hV.keep y (H18.out.2.apt (by omega) hn)).1.trans (H18.out.1.block y hy)⟩
              have hb119 : Below w1.heap.size w1 w19 := H17.out.1.trans (hk1719.below H17.out.1.size fun y hy e => by omega)
              have htsl : Sl (fun _ => True) w19 (.slice TA l.length tc) (l.map Shp.made).length vs := by rw [hlm]; exact ((Sl.of_own HU.out.tsl (by omega)).keeps (below_keeps hb119 _)).mono fun _ _ _ => trivial
              have HEQ := Lib.hid (equal_any w19 (hV.sl.mono fun _ _ _ => trivial) (hV.gs.mono fun _ _ _ => trivial) htsl ((HU.out.tgs.keeps (below_keeps hb119 _)).mono fun _ _ _ => trivial))
              have H19 := Lib.hid (And.intro hk1719 hb119)
              clear hV HF3 htsl hk1719 hb119
              go_wp2_with fail
              refine HEQ.out.mono ?_
              rintro e w20 ⟨rfl, hb20⟩
              have hs20 := hb20.size
              have hb120 : Below w1.heap.size w1 w20 := H19.out.2.trans (hb20.mono H19.out.2.size)
              have hk1720 : KX (fun y => y = w7.heap.size) w17 w20 := H19.out.1.trans (KX.of_new hb20 _)
              have hre20 : Each (RecB w.heap.size (OkF w.heap.size (.slice TA l.length tc) (.slice RA l.length rc)) w20) rs (l.map Shp.bytes) := recs_keep HU.out.rbs (KX.of_new hb120 (fun _ => False)) (fun _ _ _ h => h)
              have H20 := Lib.hid (And.intro hb120 (And.intro hk1720 hre20))
              clear hb20 hb120 hk1720 hre20 HEQ
              go_wp2_with fail
              go_loopw [27] (fun i W => ∃ m : Nat, m ≤ l.length ∧ i = .int .i64 m ∧ Hid (FSt rs w20 m W)) (fun i _ => l.length - (intOf i).toNat)
              case atStart => exact ⟨0, Nat.zero_le _, rfl, Lib.hid (FSt.start _ _)⟩
              case round =>
                obtain ⟨m, hm, rfl, HS⟩ := hrel
                by_cases hml : m < l.length
                · obtain ⟨s, hs⟩ : ∃ s, l[m]? = some s := ⟨_, List.getElem?_eq_getElem hml⟩
                  have hsk : s.ok := HOK.out.1 s (List.mem_of_getElem? hs)
                  obtain ⟨wf, hwf⟩ : ∃ wf, wf = wr := ⟨_, rfl⟩
                  subst hwf
                  have hsF := HS.out.kx.size
                  -- the tree and the record, at w1
                  obtain ⟨cx, hI, hat⟩ := IsGs.at HU.out.tgs m s.made (by rw [List.getElem?_map, hs]; rfl)
                  obtain ⟨i1, F1, k1, e1, F2, k2, e2, F3, k3, e3, rfl⟩ := geom_shape hI
                  obtain ⟨tb, tc', hge, htb1, htb2, htcell⟩ := own_cellsF HU.out.tsl (by omega)
                  simp only [Value.slice.injEq, true_and] at hge
                  obtain ⟨rfl, rfl⟩ := hge
                  obtain ⟨rb, rc', hge, hrb1, hrb2, hrcell⟩ := own_cellsF HU.out.rsl (by omega)
                  simp only [Value.slice.injEq, true_and] at hge
                  obtain ⟨rfl, rfl⟩ := hge
                  obtain ⟨u, hu, hur, huk⟩ := HS.out.round H20.out.2.2 HU.out.rap (l := s.bytes) (by rw [List.getElem?_map, hs]; rfl)
                  have hsl := rec_len hsk
                  obtain ⟨gu, cu, hge, hgu1, hgu2, _⟩ := own_cellsF hur (by omega)
                  subst hge
                  have hgu3 : gu < w1.heap.size := (RB.isOk HU.out.rbs (m := m + 1) ⟨m, _, by omega, hu, rfl⟩).2
                  -- the shape's order, in the argument
                  obtain ⟨⟨A0', ac', hv0, _, _, harow⟩, _⟩ := HL0.out.1
                  simp only [Value.slice.injEq, true_and] at hv0
                  obtain ⟨rfl, rfl⟩ := hv0
                  have hs0 := HL0.out.2 m s hs
                  have hml0 : m < l0.length := (List.getElem?_eq_some_iff.1 hs0).1
                  have hfc := flat_cells l0 m s hs0
                  obtain ⟨ab, ao, rfl, _, hab, hacell⟩ := harow.at (by intro e; have h := hfc 0 _ rfl; rw [e] at h; simp at h)
                  have hlit := hacell _ _ (hfc 5 _ rfl)
                  rw [← Nat.add_assoc] at hlit
                  -- what stands where the first records are written over
                  have hRB : ∀ M y, RB rs M y → OkF w.heap.size (.slice (some ⟨tb, 0, none⟩) l.length tc) (.slice (some ⟨rb, 0, none⟩) l.length rc) y ∧ y < w1.heap.size := fun M y e => RB.isOk HU.out.rbs e
                  have HSK : Hid (∀ M W, KX (RB rs M) w20 W → (W.cell? ⟨tb, m * 4, none⟩ = some (.int .i64 i1) ∧ W.cell? ⟨tb, m * 4 + 1, none⟩ = some (.slice F1 k1 e1) ∧ W.cell? ⟨tb, m * 4 + 2, none⟩ = some (.slice F2 k2 e2) ∧ W.cell? ⟨tb, m * 4 + 3, none⟩ = some (.slice F3 k3 e3) ∧
                      W.cell? ⟨ab, ao + m * 6 + 5, none⟩ = some (.bool s.lt)) ∧ W.cell? ⟨rb, m, none⟩ = some (.slice (some ⟨gu, 0, none⟩) s.bytes.length cu) ∧ IsG (OkT w.heap.size (.slice (some ⟨tb, 0, none⟩) l.length tc) (.slice (some ⟨rb, 0, none⟩) l.length rc) rs) W s.made [.int .i64 i1, .slice F1 k1 e1, .slice F2 k2 e2, .slice F3 k3 e3] ∧ Below w.heap.size w W) := Lib.hid fun M W hW => by
                    have hk1 : KX (RB rs M) w1 W := (KX.of_new H20.out.1 _).then hW (fun _ _ e => e) (fun _ _ e => e)
                    have hT : ∀ j c, [Value.int .i64 i1, .slice F1 k1 e1, .slice F2 k2 e2, .slice F3 k3 e3][j]? = some c → W.cell? ⟨tb, m * 4 + j, none⟩ = some c := fun j c hj => hk1.cell (htcell _ _ (hat j c hj)) fun e => (hRB M tb e).1.2.1 rfl
                    have t0 := hT 0 _ rfl
                    rw [Nat.add_zero] at t0
                    refine ⟨⟨t0, hT 1 _ rfl, hT 2 _ rfl, hT 3 _ rfl, ?_⟩, hk1.cell (hrcell _ _ hu) fun e => (hRB M rb e).1.2.2 rfl, hI.keeps (hk1.keeps fun y hy ⟨j', u', _, hu', hub'⟩ => hy.2 u' (List.mem_of_getElem? hu') hub'), ?_⟩
                    · exact (World.cell?_of_block (a := ⟨ab, ao + m * 6 + 5, none⟩) ((hk1.block ab (by omega) fun e => by have := (hRB M ab e).1.1; omega).trans (HU.out.below.block ab hab))).trans hlit
                    · exact HU.out.below.trans (hk1.below hs1 fun y hy e => by have := (hRB M y e).1.1; omega)
                  have HUR := Lib.hid (And.intro hur hu)
                  have hkf := HS.out.kx
                  have HM := Lib.hid (And.intro hsk hkf)
                  have hmi : (m : Int) < (l.length : Int) ∧ (m : Int) < (l0.length : Int) := by omega
                  clear hI hat htcell hrcell hur huk hu hRB hfc hacell hlit hs0 hs harow hsk hkf
                  have HFM := Lib.hid (fun M W (hW : KX (RB rs M) w20 W) => frame_made W HM.out.1 (HSK.out M W hW).2.2.1)
                  have hdr : KX (RB rs m) w20 wf.drew := ⟨HM.out.2.os, HM.out.2.tape, HM.out.2.output, HM.out.2.size, HM.out.2.block⟩
                  have HDR := Lib.hid hdr
                  clear hdr
                  go_upto_region 51 with (fail)
                  go_region_held3 (fun W => W.cell? ⟨tb, m * 4, none⟩ = some (.int .i64 i1) ∧ W.cell? ⟨tb, m * 4 + 1, none⟩ = some (.slice F1 k1 e1) ∧ W.cell? ⟨tb, m * 4 + 2, none⟩ = some (.slice F2 k2 e2) ∧ W.cell? ⟨tb, m * 4 + 3, none⟩ = some (.slice F3 k3 e3) ∧ W.cell? ⟨ab, ao + m * 6 + 5, none⟩ = some (.bool s.lt))
                    (first
                      | exact (HSK.out m _ HDR.out).1
                      | exact (HSK.out m _ (HDR.out.trans (KX.of_new HB21.out _))).1)
                    ((first
                      | (go_at_call 34
                         refine (HFM.out m wf.drew HDR.out).mono ?_
                         rintro e w21 ⟨fr, rfl, hfr, hb21⟩
                         have HB21 := Lib.hid hb21
                         have HFR := Lib.hid (show OwnB wf.heap.size w21 fr s.bytes from hfr)
                         clear hb21 hfr)))
                  have hs21 : wf.heap.size ≤ w21.heap.size := HB21.out.size
                  have hb21 : Below wf.heap.size wf w21 := ⟨HB21.out.os, HB21.out.tape, HB21.out.output, HB21.out.size, HB21.out.block⟩
                  have hk21 : KX (RB rs m) w20 w21 := HM.out.2.trans (KX.of_new hb21 _)
                  obtain ⟨CA, cc, rfl⟩ := own_shape HFR.out
                  have r21 := (HSK.out m w21 hk21).2.1
                  have hu21 : OwnB w.heap.size w21 (.slice (some ⟨gu, 0, none⟩) s.bytes.length cu) s.bytes := ownsRow_below HUR.out.1 hb21
                  have HSM1 := Lib.hid (same_any w21 (OwnB.bytes HFR.out (by omega)) (OwnB.bytes hu21 (by omega)))
                  rw [decide_eq_true rfl] at HSM1
                  have H21 := Lib.hid (And.intro hb21 (And.intro hk21 hu21))
                  clear hb21 hk21 hu21
                  go_wp2_with fail
                  refine HSM1.out.mono ?_
                  rintro e w22 ⟨rfl, hb22⟩
                  have hs22 := hb22.size
                  have hk22 : KX (RB rs m) w20 w22 := H21.out.2.1.trans (KX.of_new hb22 _)
                  have r22 := (HSK.out m w22 hk22).2.1
                  have H22 := Lib.hid (And.intro (H21.out.1.trans (hb22.mono hs21)) (And.intro hk22 (And.intro (OwnB.under H21.out.2.2 hb22) (OwnB.under HFR.out hb22))))
                  have hnb : s.bytes.length ≤ 4012 := hsl.2
                  have hnb0 : 21 ≤ s.bytes.length := hsl.1
                  clear hb22 hk22 r21 HSM1 H21 HB21 HDR
                  go_wp2_with fail
                  go_loopw [31] (fun i W => ∃ j : Nat, j ≤ s.bytes.length ∧ i = .int .i64 j ∧ Hid (KX (fun y => y = gu) w22 W ∧ W.ownsRow w.heap.size 5 1 (.slice (some ⟨gu, 0, none⟩) s.bytes.length cu) s.bytes.length ((List.replicate j (221 : UInt8) ++ s.bytes.drop j).map bv))) (fun i _ => s.bytes.length - (intOf i).toNat)
                  case atStart => exact ⟨0, Nat.zero_le _, rfl, Lib.hid ⟨KX.refl _ _, by have h := H22.out.2.2.1; unfold OwnB at h; simpa using h⟩⟩
                  case round =>
                    obtain ⟨j, hj, rfl, HR⟩ := hrel
                    by_cases hja : j < s.bytes.length
                    · have hji : (j : Int) < (s.bytes.length : Int) := by omega
                      obtain ⟨st1, st2⟩ := World.ownsRow.stored HR.out.2 j (.int .u8 221)
                      have f0 := World.ownsRow.frozenAt HR.out.2 j
                      obtain ⟨u0, hu0⟩ : ∃ u0, wr.cell? ⟨gu, j, none⟩ = some u0 := ⟨_, (World.ownsRow.cellAt HR.out.2 j (by omega)).trans (List.getElem?_eq_getElem (by rw [List.length_map, List.length_append, List.length_replicate, List.length_drop]; omega))⟩
                      rw [show (Value.int .u8 221 : Value) = bv 221 from rfl, ← List.map_set, list_set_fill s.bytes 221 j hja] at st1
                      have HST := Lib.hid (And.intro st1 st2)
                      clear st1 st2
                      go_wp2_with fail
                      go_roundw
                      · exact ⟨j + 1, hja, by simp, Lib.hid ⟨HR.out.1.trans ((KX.of_grown HST.out.2).weak fun x _ e => by cases e; rfl), HST.out.1⟩⟩
                      · simp [intOf]; omega
                    · have hje : j = s.bytes.length := by omega
                      subst hje
                      obtain ⟨w23, hw23⟩ : ∃ w23, w23 = wr := ⟨_, rfl⟩
                      subst hw23
                      have hr23 := HR.out.2
                      rw [List.drop_length, List.append_nil] at hr23
                      have hs23 := HR.out.1.size
                      have H23 := Lib.hid (And.intro HR.out.1 hr23)
                      clear hr23 HR
                      go_wp2_with fail
                      go_loopw [30, 32] (fun gr c W => ∃ (z : Nat) (E : Option Addr) (ec : Nat), z ≤ 70 ∧ c = .int .i64 z ∧ gr = .slice E (s.bytes.length + z) ec ∧ Hid (KX (fun y => y = gu) w23 W ∧ W.ownsRow 0 5 1 gr (s.bytes.length + z) ((List.replicate s.bytes.length (221 : UInt8) ++ List.replicate z (204 : UInt8)).map bv) ∧
                          (∀ y, gr.ownBlock = some y → y = gu ∨ w23.heap.size ≤ y) ∧ (∀ i u, ((List.replicate s.bytes.length (221 : UInt8)).map bv)[i]? = some u → W.cell? ⟨gu, i, none⟩ = some u))) (fun _ c _ => 70 - (intOf c).toNat)
                      case atStart =>
                        refine ⟨0, _, _, by omega, rfl, rfl, Lib.hid ⟨KX.refl _ _, ?_, fun y e => .inl (ob_eq e), fun i u hu => ?_⟩⟩
                        · have h := H23.out.2
                          rw [List.replicate_zero, List.append_nil, Nat.add_zero]
                          exact ⟨h.1, h.2.imp id fun ⟨g, c, cur, q1, q2, q3⟩ => ⟨g, c, cur, q1, Nat.zero_le _, q3⟩⟩
                        · have := World.ownsRow.cells H23.out.2 (g := gu) rfl i u hu
                          rwa [add0] at this
                      case round =>
                        obtain ⟨z, E, ec, hz, rfl, rfl, HR⟩ := hrel
                        by_cases hzl : z < 70
                        · have hzi : (z : Int) < 70 := by omega
                          obtain ⟨wz, hwz⟩ : ∃ wz, wz = wr.alloc (.cells #[.int .u8 204] 5) := ⟨_, rfl⟩
                          have hbz : Below wr.heap.size wr wz := by subst hwz; exact (Below.refl _ _).alloc (Nat.le_refl _) _
                          have hxz : wz.heap[wr.heap.size]? = some (.cells #[.int .u8 204] 5 (0, 0)) := by subst hwz; exact World.alloc_heap_new _ _
                          have HZ := Lib.hid (And.intro hbz (And.intro hxz (ownsRow_below HR.out.2.1 hbz)))
                          clear hbz hxz
                          go_wp2_with (first
                            | (rw [← hwz]
                               clear hwz
                               at_builtin
                               go_must (
                                refine keep_by rfl (.tmp 299) (.tmp 300) rfl (.slice E (s.bytes.length + z) ec) (by rfl) (by rfl) HZ.out.2.2 HZ.out.2.1 rfl (by omega) (Nat.zero_le _) ?_
                                intro r5 w5 ho5 hgr5 hg5 hk5
                                obtain ⟨E5, e5, rfl⟩ := own_shape ho5
                                have HR5 := Lib.hid (And.intro ho5 (And.intro hgr5 (And.intro hg5 hk5)))
                                clear ho5 hgr5 hg5 hk5)))
                          go_roundw
                          · refine ⟨z + 1, E5, e5, hzl, by simp, rfl, Lib.hid ⟨?_, ?_, fun y e => ?_, fun i u hu => ?_⟩⟩
                            · exact (HR.out.1.trans (KX.of_new HZ.out.1 _)).then (KX.of_grown HR5.out.2.1) (fun _ _ e => e) (fun y hy e => (HR.out.2.2.1 y e).elim id fun h => by omega)
                            · have h := HR5.out.1
                              rw [List.replicate_succ', ← List.append_assoc, List.map_append]
                              exact h
                            · rcases HR5.out.2.2.1 y e with h | h
                              · exact HR.out.2.2.1 y h
                              · have := HR.out.1.size; have := HZ.out.1.size; exact .inr (by omega)
                            · have hc := HR.out.2.2.2 i u hu
                              by_cases hy : (Value.slice E (s.bytes.length + z) ec).ownBlock = some gu
                              · refine HR5.out.2.2.2 gu hy i u ?_
                                rw [List.map_append, List.getElem?_append_left (List.getElem?_eq_some_iff.1 hu).1]; exact hu
                              · have hyl := lt_of_cell hc
                                exact (World.cell?_of_block (a := ⟨gu, i, none⟩) (HR5.out.2.1.block gu (Nat.lt_of_lt_of_le hyl HZ.out.1.size) (fun e' => hy e'.symm))).trans ((HZ.out.1.cell (p := ⟨gu, i, none⟩) hyl).trans hc)
                          · simp [intOf]; omega
                        · have hze : z = 70 := by omega
                          subst hze
                          obtain ⟨w24, hw24⟩ : ∃ w24, w24 = wr := ⟨_, rfl⟩
                          subst hw24
                          have hRBm : ∀ y, y = gu → RB rs (m + 1) y := fun y e => ⟨m, _, by omega, HUR.out.2, by rw [e]; rfl⟩
                          have hk2224 : KX (fun y => y = gu) w22 w24 := H23.out.1.trans HR.out.1
                          have hk2024 : KX (RB rs (m + 1)) w20 w24 := H22.out.2.1.then hk2224 (fun y _ ⟨j', u', h1, h2, h3⟩ => ⟨j', u', by omega, h2, h3⟩) (fun y _ e => hRBm y e)
                          have hgw : gu < wf.heap.size := by omega
                          have hfr24 : OwnB wf.heap.size w24 (.slice CA s.bytes.length cc) s.bytes := hk2224.own H22.out.2.2.2 (fun y e h => by have := (World.ownsRow.lt H22.out.2.2.2 y e).1; omega)
                          have hs24 := hk2224.size
                          have H24 := Lib.hid (And.intro hk2224 (And.intro hk2024 (And.intro hfr24 HR.out.2.2.2)))
                          have hdr : KX (RB rs (m + 1)) w20 w24.drew := ⟨hk2024.os, hk2024.tape, hk2024.output, hk2024.size, hk2024.block⟩
                          have HDR := Lib.hid hdr
                          have hn70 : ¬ (s.bytes.length : Int) + 70 < 70 := by omega
                          clear hdr hk2224 hk2024 hfr24 HR hRBm
                          go_upto_region 63 with (fail)
                          go_region_held3 (fun W => W.cell? ⟨tb, m * 4, none⟩ = some (.int .i64 i1) ∧ W.cell? ⟨tb, m * 4 + 1, none⟩ = some (.slice F1 k1 e1) ∧ W.cell? ⟨tb, m * 4 + 2, none⟩ = some (.slice F2 k2 e2) ∧ W.cell? ⟨tb, m * 4 + 3, none⟩ = some (.slice F3 k3 e3) ∧ W.cell? ⟨ab, ao + m * 6 + 5, none⟩ = some (.bool s.lt))
                            (first
                              | exact (HSK.out (m + 1) _ HDR.out).1
                              | exact (HSK.out (m + 1) _ (HDR.out.trans (KX.of_new HB25.out _))).1)
                            ((first
                              | (go_at_call 34
                                 refine (HFM.out (m + 1) w24.drew HDR.out).mono ?_
                                 rintro e w25 ⟨fr5, rfl, hfr5, hb25⟩
                                 have HB25 := Lib.hid hb25
                                 have HFR5 := Lib.hid (show OwnB w24.heap.size w25 fr5 s.bytes from hfr5)
                                 clear hb25 hfr5)))
                          have hs25 : w24.heap.size ≤ w25.heap.size := HB25.out.size
                          have hb25 : Below w24.heap.size w24 w25 := ⟨HB25.out.os, HB25.out.tape, HB25.out.output, HB25.out.size, HB25.out.block⟩
                          obtain ⟨CB, cb, rfl⟩ := own_shape HFR5.out
                          have HSM2 := Lib.hid (same_any w25 (OwnB.bytes (H24.out.2.2.1.under hb25) (by omega)) (OwnB.bytes HFR5.out (by omega)))
                          rw [decide_eq_true rfl] at HSM2
                          have H25 := Lib.hid hb25
                          clear hb25 HB25 HDR
                          go_wp2_with fail
                          refine HSM2.out.mono ?_
                          rintro e w26 ⟨rfl, hb26⟩
                          have HB26 := Lib.hid (H25.out.trans (hb26.mono hs25))
                          clear hb26 HSM2
                          go_wp2_with fail
                          go_roundw
                          · refine ⟨m + 1, hml, by simp, Lib.hid (HS.out.next HU.out.rap HUR.out.2 ?_ ?_)⟩
                            · exact ((KX.of_new H22.out.1 _).trans (H24.out.1.weak fun y _ e => by rw [e]; rfl)).trans (KX.of_new HB26.out _)
                            · intro g n c hv i hi
                              rw [HUR.out.2] at hv
                              simp only [Option.some.injEq, Value.slice.injEq, Addr.mk.injEq, and_true] at hv
                              obtain ⟨rfl, rfl, rfl⟩ := hv
                              have hc := H24.out.2.2.2 i (.int .u8 221) (by rw [List.getElem?_map, List.getElem?_replicate, if_pos hi]; rfl)
                              exact (HB26.out.cell (p := ⟨gu, i, none⟩) (lt_of_cell hc)).trans hc
                          · simp [intOf]; omega
                · have hme : m = l.length := by omega
                  subst hme
                  obtain ⟨w27, hw27⟩ : ∃ w27, w27 = wr := ⟨_, rfl⟩
                  subst hw27
                  have hs27 := HS.out.kx.size
                  have hRBl : ∀ y, RB rs l.length y → OkF w.heap.size (.slice TA l.length tc) (.slice RA l.length rc) y ∧ y < w1.heap.size := fun y e => RB.isOk HU.out.rbs e
                  have hkT : KX (fun y => y = w7.heap.size ∨ y < w1.heap.size) w17 w27 := H20.out.2.1.then HS.out.kx (fun y _ e => .inl e) (fun y _ e => .inr (hRBl y e).2)
                  have hkG : KX (fun y => TB vg l.length y ∨ y = w7.heap.size ∨ y < w1.heap.size) w16 w27 := HD.out.kx.then hkT (fun y _ e => .inl e) (fun y _ e => .inr e)
                  have hk127 : KX (RB rs l.length) w1 w27 := (KX.of_new H20.out.1 _).then HS.out.kx (fun _ _ e => e) (fun _ _ e => e)
                  have hb27 : Below w.heap.size w w27 := HU.out.below.trans (hk127.below hs1 fun y hy e => by have := (hRBl y e).1.1; omega)
                  have H27 := Lib.hid (And.intro hkT (And.intro hkG (And.intro hk127 (And.intro hb27 hRBl))))
                  clear hkT hkG hk127 hb27 hRBl
                  go_wp2_with fail
                  go_loopw [34] (fun i W => ∃ m : Nat, m ≤ l.length ∧ i = .int .i64 m ∧ w27 = W) (fun i _ => l.length - (intOf i).toNat)
                  case atStart => exact ⟨0, Nat.zero_le _, rfl, rfl⟩
                  case round =>
                    obtain ⟨m, hm, rfl, hW⟩ := hrel
                    subst hW
                    by_cases hml : m < l.length
                    · obtain ⟨x, hx⟩ : ∃ x, (l.map Shp.made)[m]? = some x := ⟨_, List.getElem?_eq_getElem (by rw [hlm]; exact hml)⟩
                      obtain ⟨kx, v1, A2, m2', c2, v3, ps, hat, ⟨ho1, hbk1⟩, ⟨ho3, hbk3⟩⟩ := dst_tree HN16.out hx
                      obtain ⟨D1, d1, rfl⟩ := own_shape ho1
                      obtain ⟨gb, gc', hge, hgb1, hgb2, hgc⟩ := own_cellsF HG16.out (by omega)
                      simp only [Value.slice.injEq, true_and] at hge
                      obtain ⟨rfl, rfl⟩ := hge
                      have c1 : w27.cell? ⟨gb, m * 4 + 1, none⟩ = some (.slice D1 x.line.length d1) := H27.out.2.1.cell (hgc _ _ (hat 1 _ rfl)) (by
                        show ¬ (TB vg l.length gb ∨ gb = w7.heap.size ∨ gb < w1.heap.size)
                        rintro (e | e | e)
                        · have := (TB.isOk HN16.out e).2; omega
                        · omega
                        · omega)
                      have HLN : Hid (∀ i, i < x.line.length → ∃ g, D1 = some ⟨g, 0, none⟩ ∧ w27.cell? ⟨g, i * 2, none⟩ = some (.int .u64 7) ∧ w27.cell? ⟨g, i * 2 + 1, none⟩ = some (.int .u64 0)) := Lib.hid fun i hi => by
                        obtain ⟨g, d', hge, _, _, _⟩ := own_cellsF ho1 (by omega)
                        simp only [Value.slice.injEq, true_and] at hge
                        obtain ⟨rfl, rfl⟩ := hge
                        have hg := (hbk1 g rfl).1
                        obtain ⟨f0, f1⟩ := HD.out.fill m hml g _ _ (hat 1 _ rfl) i hi
                        have hne : ¬ (g = w7.heap.size ∨ g < w1.heap.size) := by rintro (e | e) <;> omega
                        exact ⟨g, rfl, H27.out.1.cell f0 hne, H27.out.1.cell f1 hne⟩
                      have hmi : (m : Int) < (l.length : Int) := by omega
                      have hnl : x.line.length ≤ 65536 := by
                        obtain ⟨s, hs, rfl⟩ := List.mem_map.1 (List.mem_of_getElem? hx)
                        exact Nat.le_trans (line_weight s.made) (Nat.le_trans (made_weight s) (by decide))
                      clear hat ho1 ho3 hgc hx hbk1 hbk3
                      go_wp2_with fail
                      go_loopw [35] (fun i W => ∃ q : Nat, q ≤ x.line.length ∧ i = .int .i64 q ∧ w27 = W) (fun i _ => x.line.length - (intOf i).toNat)
                      case atStart => exact ⟨0, Nat.zero_le _, rfl, rfl⟩
                      case round =>
                        obtain ⟨q, hq, rfl, hW⟩ := hrel
                        subst hW
                        by_cases hql : q < x.line.length
                        · obtain ⟨g1, hD, z0, z1⟩ := HLN.out q hql
                          subst hD
                          have hqi : (q : Int) < (x.line.length : Int) := by omega
                          go_wp2_with fail
                          go_roundw
                          · exact ⟨q + 1, hql, by simp, by trivial⟩
                          · simp [intOf]; omega
                        · have hqe : q = x.line.length := by omega
                          subst hqe
                          go_wp2_with fail
                          go_roundw
                          · exact ⟨m + 1, hml, by simp, by trivial⟩
                          · simp [intOf]; omega
                    · have hme : m = l.length := by omega
                      subst hme
                      go_wp2_with fail
                      go_loopw [36] (fun i W => ∃ m : Nat, m ≤ l.length ∧ i = .int .i64 m ∧ w27 = W) (fun i _ => l.length - (intOf i).toNat)
                      case atStart => exact ⟨0, Nat.zero_le _, rfl, rfl⟩
                      case round =>
                        obtain ⟨m, hm, rfl, hW⟩ := hrel
                        subst hW
                        by_cases hml : m < l.length
                        · obtain ⟨s, hs⟩ : ∃ s, l[m]? = some s := ⟨_, List.getElem?_eq_getElem hml⟩
                          obtain ⟨u, hu, hur, huk⟩ := H20.out.2.2.at m s.bytes (by rw [List.getElem?_map, hs]; rfl)
                          obtain ⟨U, uc, rfl⟩ := own_shape hur
                          obtain ⟨rb, rc', hge, hrb1, hrb2, hrcell⟩ := own_cellsF HU.out.rsl (by omega)
                          simp only [Value.slice.injEq, true_and] at hge
                          obtain ⟨rfl, rfl⟩ := hge
                          have c1 : w27.cell? ⟨rb, m, none⟩ = some (.slice U s.bytes.length uc) := H27.out.2.2.1.cell (hrcell _ _ hu) fun e => (H27.out.2.2.2.2 rb e).1.2.2 rfl
                          have HLN : Hid (∀ i, i < s.bytes.length → ∃ g, U = some ⟨g, 0, none⟩ ∧ w27.cell? ⟨g, i, none⟩ = some (.int .u8 221)) := Lib.hid fun i hi => by
                            obtain ⟨g, d', hge, _, _, _⟩ := own_cellsF hur (by omega)
                            simp only [Value.slice.injEq, true_and] at hge
                            obtain ⟨rfl, rfl⟩ := hge
                            exact ⟨g, rfl, HS.out.fill m hml g _ _ hu i hi⟩
                          have hmi : (m : Int) < (l.length : Int) := by omega
                          have hnb : s.bytes.length ≤ 4012 := (rec_len (HOK.out.1 s (List.mem_of_getElem? hs))).2
                          clear hu hur huk hrcell hs
                          go_wp2_with fail
                          go_loopw [37] (fun i W => ∃ q : Nat, q ≤ s.bytes.length ∧ i = .int .i64 q ∧ w27 = W) (fun i _ => s.bytes.length - (intOf i).toNat)
                          case atStart => exact ⟨0, Nat.zero_le _, rfl, rfl⟩
                          case round =>
                            obtain ⟨q, hq, rfl, hW⟩ := hrel
                            subst hW
                            by_cases hql : q < s.bytes.length
                            · obtain ⟨g1, hD, z0⟩ := HLN.out q hql
                              subst hD
                              have hqi : (q : Int) < (s.bytes.length : Int) := by omega
                              go_wp2_with fail
                              go_roundw
                              · exact ⟨q + 1, hql, by simp, by trivial⟩
                              · simp [intOf]; omega
                            · have hqe : q = s.bytes.length := by omega
                              subst hqe
                              go_wp2_with fail
                              go_roundw
                              · exact ⟨m + 1, hml, by simp, by trivial⟩
                              · simp [intOf]; omega
                        · have hme : m = l.length := by omega
                          subst hme
                          go_wp2_with fail
                          go_ret
                          exact ⟨rfl, H27.out.2.2.2.1⟩
end Go.Proofs.YtlffgepnhhnadaaDoor.Pl
