/- plumblaw27.StreamSums, walked. -/
import Derived.Test.YtlffgepnhhnadaaDoorLawA
import Derived.Deep.RegionHeld3
namespace Go.Proofs.YtlffgepnhhnadaaDoor.Pl
open Go.RowKit

/-- the law's own rest -/
theorem into_any (n top : Int) (w : World) (ht : 0 < top) (ht2 : top ≤ 1152921504606846976) :
    Calls Tryd.prog 31 #[.int .i64 n, .int .i64 top] w fun e w' => e = .returned (.int .i64 (n % top)) ∧ w = w' := by
  have hm := Int.emod_nonneg n (by omega : top ≠ 0)
  have hm2 := Int.emod_lt_of_pos n ht
  have h0 : n.tmod top < 0 → wrap64 (n.tmod top + top) = n % top := by
    intro h
    have h1 := Int.lt_tmod_of_pos n ht
    have h2 : (n.tmod top + top) % top = n % top := by
      rw [Int.add_emod_right, Int.tmod_eq_emod]
      split
      · simp
      · rw [Int.natAbs_of_nonneg (by omega)]; rw [show n % top - top = n % top + top * -1 by omega, Int.add_mul_emod_self_left, Int.emod_emod]
    rw [← h2, Int.emod_eq_of_lt (by omega) (by omega)]
    unfold wrap64; omega
  have h1 : 0 ≤ n.tmod top → n.tmod top = n % top := by
    intro h
    have h1 := Int.tmod_lt_of_pos n ht
    have h2 : (n.tmod top) % top = n % top := by
      rw [Int.tmod_eq_emod]
      split
      · simp
      · rw [Int.natAbs_of_nonneg (by omega)]; rw [show n % top - top = n % top + top * -1 by omega, Int.add_mul_emod_self_left, Int.emod_emod]
    rw [← h2, Int.emod_eq_of_lt (by omega) (by omega)]
  have H0 := Lib.hid h0
  have H1 := Lib.hid h1
  clear h0 h1 hm hm2
  go_enter Tryd.func31, Tryd.ntmps31
  go_wp2
  · go_ret
    exact ⟨ret_int (H0.out (by assumption)), rfl⟩
  · go_ret
    exact ⟨ret_int (H1.out (by assumption)), rfl⟩
theorem xor8 (a b : Nat) (ha : a < 256) (hb : b < 256) : bits .xor .u8 (a : Int) (b : Int) = ((a ^^^ b : Nat) : Int) := by
  have hx : a ^^^ b < 2 ^ 8 := Nat.xor_lt_two_pow (by omega) (by omega)
  show IntKind.u8.wrap ((BitVec.ofInt 8 (a : Int) ^^^ BitVec.ofInt 8 (b : Int)).toNat : Int) = _
  rw [BitVec.toNat_xor, BitVec.ofInt_natCast, BitVec.ofInt_natCast, BitVec.toNat_ofNat, BitVec.toNat_ofNat, Nat.mod_eq_of_lt (show a < 2 ^ 8 by omega), Nat.mod_eq_of_lt (show b < 2 ^ 8 by omega)]
  simp [IntKind.wrap, IntKind.bits, IntKind.signed]
  omega
theorem OwnB.keepB {B : Nat} {w w' : World} {v : Value} {l : List UInt8} (h : OwnB B w v l) (hb : Below w.heap.size w w') : OwnB B w' v l := h.under hb
theorem OwnB.any {B : Nat} {w : World} {v : Value} {l : List UInt8} (h : OwnB B w v l) (hl : l.length ≤ 140737488355328) : Bytes (fun _ => True) w v l := Sl.mono (h.bytes hl) fun _ _ _ => trivial
theorem below_drew0 (w : World) : Below w.heap.size w w.drew := ⟨rfl, rfl, rfl, Nat.le_refl _, fun _ _ => rfl⟩
def xorL (l m : List UInt8) (n : Nat) : List UInt8 := List.zipWith (· ^^^ ·) (l.take n) (m.take n)
theorem xorL_length (l m : List UInt8) (n : Nat) (h1 : n ≤ l.length) (h2 : n ≤ m.length) : (xorL l m n).length = n := by simp [xorL]; omega
theorem xorL_next {l m : List UInt8} {n k : Nat} {x y : UInt8} (hk : k < n) (hx : l[k]? = some x) (hy : m[k]? = some y) : (xorL l m n).take (k + 1) = (xorL l m n).take k ++ [x ^^^ y] := by
  refine take_snoc ?_
  simp [xorL, List.getElem?_zipWith, hk, hx, hy]
theorem OwnB.len {B : Nat} {w : World} {A : Option Addr} {n c : Nat} {l : List UInt8} (h : OwnB B w (.slice A n c) l) : n = l.length ∧ l.length ≤ c := by
  rcases h.2 with ⟨hv, h0⟩ | ⟨g, cap, cur, hv, _, _, h1, _⟩
  · cases hv; omega
  · cases hv; exact ⟨rfl, h1⟩

theorem pow8 (t : Nat) (h : t < 8) : IntKind.u8.wrap (2 ^ t) = ((2 ^ t : Nat) : Int) := by
  have : ∀ t : Fin 8, IntKind.u8.wrap (2 ^ t.val) = ((2 ^ t.val : Nat) : Int) := by decide
  exact this ⟨t, h⟩
theorem flip_ne (y : UInt8) (t : Nat) (h : t < 8) : y ^^^ UInt8.ofNat (2 ^ t) ≠ y := by
  intro e
  have h2 : 2 ^ t < 256 := Nat.lt_of_lt_of_le (Nat.pow_lt_pow_right (by omega) h) (by decide)
  have e := congrArg UInt8.toNat e
  rw [UInt8.toNat_xor, u8_ofNat, Nat.mod_eq_of_lt h2] at e
  have e2 := congrArg (y.toNat ^^^ ·) e
  simp only [← Nat.xor_assoc, Nat.xor_self, Nat.zero_xor] at e2
  have := Nat.pos_of_ne_zero (Nat.ne_of_gt (Nat.two_pow_pos t))
  omega
theorem OwnB.frozen {B : Nat} {w : World} {g n c : Nat} {l : List UInt8} (h : OwnB B w (.slice (some ⟨g, 0, none⟩) n c) l) (j : Nat) : w.frozen? ⟨g, j, none⟩ = false := by
  have := h.len.1
  subst this
  exact World.ownsRow.frozenAt h j
theorem OwnB.stored {B : Nat} {w : World} {g n c : Nat} {l : List UInt8} (h : OwnB B w (.slice (some ⟨g, 0, none⟩) n c) l) (j : Nat) (x : UInt8) :
    OwnB B (w.setCell ⟨g, j, none⟩ (bv x)) (.slice (some ⟨g, 0, none⟩) n c) (l.set j x) ∧ w.grownBy (w.setCell ⟨g, j, none⟩ (bv x)) (some g) := by
  have := h.len.1
  subst this
  have := World.ownsRow.stored h j (bv x)
  refine ⟨?_, this.2⟩
  unfold OwnB
  rw [List.map_set, List.length_set]
  exact this.1

set_option maxRecDepth 100000 in
set_option maxHeartbeats 2000000 in
theorem sums_any {ok : Nat → Prop} {va vb : Value} {l m : List UInt8} (bit : Int) (w : World) (ha : Bytes ok w va l) (hb : Bytes ok w vb m) (hg : ErrT w) :
    Calls Tryd.prog 6 #[va, vb, .int .i64 bit] w fun e w' => e = .returned (.bool true) ∧ Below w.heap.size w w' := by
  have HA := Lib.hid (And.intro (cut_any 3000 w ha) (And.intro hb hg))
  have hla : (l.take (3000 : Int).toNat).length ≤ 3000 := by rw [List.length_take]; exact Nat.min_le_left _ _
  have hlb : (m.take (3000 : Int).toNat).length ≤ 3000 := by rw [List.length_take]; exact Nat.min_le_left _ _
  clear ha hb hg
  go_enter Tryd.func6, Tryd.ntmps6
  go_wp2_with fail
  refine HA.out.1.mono ?_
  rintro e w1 ⟨ra, rfl, hra, hb1⟩
  have HB := Lib.hid (cut_any 3000 w1 (Sl.keeps HA.out.2.1 (below_keeps hb1 ok)))
  have HG1 := Lib.hid (HA.out.2.2.below hb1)
  clear HA
  generalize l.take (3000 : Int).toNat = la at *
  generalize m.take (3000 : Int).toNat = lb at *
  obtain ⟨A, ca, rfl⟩ := hra.shape
  have HRA := Lib.hid (And.intro hra hb1)
  have hs1 := hb1.size
  clear hra hb1
  go_wp2_with fail
  refine HB.out.mono ?_
  rintro e w2 ⟨rb, rfl, hrb, hb2⟩
  obtain ⟨B, cb, rfl⟩ := hrb.shape
  have hs2 := hb2.size
  have hra2 := HRA.out.1.under hb2
  have HAL := Lib.hid (alive_any w2 (HG1.out.below hb2))
  have hb02 := HRA.out.2.trans (hb2.mono hs1)
  have H2 := Lib.hid (And.intro hra2 (And.intro (hrb.mono hs1) hb02))
  clear hra2 hrb hb02 hb2 HRA HB HG1
  go_upto_region 2 with (fail)
  go_cut [7] (fun x W => x = .int .i64 (min la.length lb.length : Nat) ∧ W = w2)
  case first =>
    go_wp2_with fail
    all_goals
      go_meet
      case rel => first | exact ⟨by congr 1; omega, rfl⟩ | (refine ⟨?_, rfl⟩; congr 1; congr 1; omega)
  case rest =>
    obtain ⟨rfl, rfl⟩ := hcut
    have hn1 : min la.length lb.length ≤ la.length := Nat.min_le_left _ _
    have hn2 : min la.length lb.length ≤ lb.length := Nat.min_le_right _ _
    generalize min la.length lb.length = n at *
    go_wp2_with fail
    refine HAL.out.mono ?_
    rintro e w3 ⟨rfl, hb3⟩
    have HS0 := Lib.hid (Sum_any (ok := fun _ => True) (v := .slice none 0 0) (l := []) w3 (Sl.nil _ _))
    rw [show sumR [] = 0 from by decide, show ((0 : Nat) : Int) = 0 from rfl] at HS0
    have hs3 := hb3.size
    have H3 := Lib.hid (And.intro (H2.out.1.under hb3) (And.intro (H2.out.2.1.under hb3) (H2.out.2.2.trans (hb3.mono H2.out.2.2.size))))
    clear hb3 H2 HAL
    go_wp2_with fail
    refine HS0.out.mono ?_
    rintro e w' ⟨rfl, rfl⟩
    clear HS0
    go_wp2_with fail
    go_loopw [9, 8] (fun i x W => ∃ k : Nat, k ≤ n ∧ i = .int .i64 k ∧ Hid (OwnB w.heap.size W x ((xorL la lb n).take k) ∧ Below w3.heap.size w3 W ∧ ∀ b, x.ownBlock = some b → w3.heap.size ≤ b)) (fun i _ _ => n - (intOf i).toNat)
    case atStart => exact ⟨0, Nat.zero_le _, rfl, Lib.hid ⟨⟨rfl, .inl ⟨rfl, rfl⟩⟩, Below.refl _ _, fun _ h => by cases h⟩⟩
    case round =>
      obtain ⟨k, hk, rfl, HR2⟩ := hrel
      have hsr := HR2.out.2.1.size
      by_cases hkn : k < n
      · have hp : la[k]? = some la[k] := List.getElem?_eq_getElem (by omega)
        have hq : lb[k]? = some lb[k] := List.getElem?_eq_getElem (by omega)
        have HNX := Lib.hid (xorL_next hkn hp hq)
        obtain ⟨g1, c1, hv1, _, hl1, hc1⟩ := H3.out.1.form (by intro e; subst e; simp at hp)
        obtain ⟨g2, c2, hv2, _, hl2, hc2⟩ := H3.out.2.1.form (by intro e; subst e; simp at hq)
        simp only [Value.slice.injEq, true_and] at hv1 hv2
        obtain ⟨rfl, rfl⟩ := hv1
        obtain ⟨rfl, rfl⟩ := hv2
        have cc1 := hc1 k (bv la[k]) (by simp [hp])
        have cc2 := hc2 k (bv lb[k]) (by simp [hq])
        rw [addn, Nat.zero_add] at cc1 cc2
        have hxr := xor8 la[k].toNat lb[k].toNat la[k].toNat_lt lb[k].toNat_lt
        have HLK := Lib.hid (show ((xorL la lb n).take k).length = k by rw [List.length_take, xorL_length _ _ _ hn1 hn2]; omega)
        have HMN := Lib.hid (show min k (xorL la lb n).length = k by rw [← List.length_take]; exact HLK.out)
        rw [← UInt8.toNat_xor] at hxr
        generalize la[k] ^^^ lb[k] = z at HNX hxr
        clear hc1 hc2 hp hq
        simp only [bv] at cc1 cc2
        generalize la[k].toNat = x at cc1 hxr
        generalize lb[k].toNat = y at cc2 hxr
        have HAL := Lib.hid (show Below wr.heap.size wr (wr.drew.alloc (.cells #[bv z] 5)) from by have h := (Below.refl wr.heap.size wr.drew).alloc (Nat.le_refl _) (.cells #[bv z] 5); exact ⟨h.os, h.tape, h.output, h.size, h.block⟩)
        have hi1 : (k : Int) < (la.length : Int) := by omega
        have hi2 : (k : Int) < (lb.length : Int) := by omega
        have hi0 : (0 : Int) ≤ (k : Int) := by omega
        have OW := Lib.hid HR2.out.2.2
        have HB0 := Lib.hid (show Below w3.heap.size w3 wr.drew from ⟨HR2.out.2.1.os, HR2.out.2.1.tape, HR2.out.2.1.output, HR2.out.2.1.size, HR2.out.2.1.block⟩)
        have HB1 := Lib.hid (HR2.out.2.1.trans (HAL.out.mono hsr))
        have HSK : Hid (∀ W : World, Below w3.heap.size w3 W → W.cell? ⟨g1, k, none⟩ = some (.int .u8 x) ∧ W.cell? ⟨g2, k, none⟩ = some (.int .u8 y)) :=
          Lib.hid fun W hW => ⟨(hW.cell (p := ⟨g1, k, none⟩) hl1).trans cc1, (hW.cell (p := ⟨g2, k, none⟩) hl2).trans cc2⟩
        clear cc1 cc2
        go_wp2_with fail
        go_region_held3 (fun W => W.cell? ⟨g1, k, none⟩ = some (.int .u8 x) ∧ W.cell? ⟨g2, k, none⟩ = some (.int .u8 y))
          (first
            | exact HSK.out _ HB0.out
            | exact HSK.out _ HB1.out
            | exact HSK.out _ HB4.out)
          ((refine step_append rfl (.tmp 35) (.tmp 45) rfl u8 _ (by rfl) (by rfl) (ownsRow_below HR2.out.1 HAL.out) (one_byte wr.drew z) (by simp) (by rw [HLK.out]; simp only [List.length_cons, List.length_nil]; omega) (Nat.le_trans H3.out.2.2.size (Nat.le_trans hsr HAL.out.size)) ?_
            intro g3 cap3 w4 ho3 hgr3 hg3 hlt3
            have HR3 := Lib.hid (And.intro ho3 hgr3)
            have OW4 : Hid (∀ b, (Value.slice (some ⟨g3, 0, none⟩) (k + 1) cap3).ownBlock = some b → w3.heap.size ≤ b) := Lib.hid (fun b e => by cases e; exact hg3.elim (fun h => OW.out _ h) (fun h => by rw [h]; exact HB1.out.size))
            have HB4 : Hid (Below w3.heap.size w3 w4) := Lib.hid (HB1.out.grown hgr3 HB1.out.size (fun k e => OW.out k e))
            clear ho3 hgr3 hg3 hlt3))
        all_goals
          go_wp2_with fail
          go_roundw
          · exact ⟨k + 1, hkn, by simp, Lib.hid ⟨by rw [HNX.out]; have h := HR3.out.1; rw [HLK.out] at h; rw [HMN.out]; exact h, HB4.out, OW4.out⟩⟩
          · simp [intOf]; omega
      · have hkn : k = n := by omega
        subst hkn
        have hxl := xorL_length la lb k hn1 hn2
        rw [List.take_of_length_le (by omega)] at HR2
        have hbr := H3.out.2.2.trans (HR2.out.2.1.mono H3.out.2.2.size)
        have hra := H3.out.1.under HR2.out.2.1
        have hrb := H3.out.2.1.under HR2.out.2.1
        have HXL := Lib.hid hxl
        obtain ⟨U, cu, rfl⟩ := HR2.out.1.shape
        have HR4 := Lib.hid (And.intro hra (And.intro hrb (And.intro hbr (And.intro HR2.out.1 (And.intro (show Bytes (fun _ => True) wr (.slice A k ca) (la.take k) from Bytes.take (hra.any (by omega)) k hn1) (show Bytes (fun _ => True) wr (.slice B k cb) (lb.take k) from Bytes.take (hrb.any (by omega)) k hn2))))))
        clear hra hrb hbr HR2 hxl H3
        have HS3 := Lib.hid (sum_three (la.take k) (lb.take k) (by simp; omega))
        obtain ⟨i0, hi, hz0, hz1, hz2⟩ := info_parts Tryd.info5x
        obtain ⟨w5, hmk, hown, hgr⟩ := run_make_full (P := Tryd.prog) wr.drew wr.heap.size 35 5 i0 (.int .u8 0) 1 Tryd.underlying35 hi hz0 hz1 .i64 .i64 k (by rw [hz2]; omega) (by unfold maxLen; omega) (Nat.le_refl _)
        have hb5 : Below wr.heap.size wr w5 := (show Below wr.heap.size wr wr.drew from below_drew0 wr).grown hgr (Nat.le_refl _) (fun _ e => by cases e)
        have hz5 : Bytes (fun _ => True) w5 (.slice (some ⟨wr.drew.heap.size, 0, none⟩) k k) (List.replicate k 0) := by
          have h : OwnB wr.heap.size w5 (.slice (some ⟨wr.drew.heap.size, 0, none⟩) k k) (List.replicate k 0) := by
            unfold OwnB
            rw [show (Value.int .u8 0).cells = #[Value.int .u8 0] from rfl, toList_madeCells_one, Nat.mul_one] at hown
            simpa [bv] using hown
          have := h.any (by simp; omega)
          simpa using this
        have H5 := Lib.hid (And.intro hb5 hz5)
        have HSM := Lib.hid (fun W v q (h : Bytes (fun _ => True) W v q) => Sum_any W h)
        have hlk : (la.take k).length = k := by rw [List.length_take]; omega
        have hlk2 : (lb.take k).length = k := by rw [List.length_take]; omega
        rw [hlk] at HS3
        have hxs : bits .xor .u32 (bits .xor .u32 (sumR (la.take k) : Int) (sumR (lb.take k) : Int)) (sumR (List.replicate k 0) : Int) = (sumR (xorL la lb k) : Int) := by
          rw [xor32 _ _ (sumR_lt _) (sumR_lt _), xor32 _ _ (Nat.xor_lt_two_pow (n := 32) (sumR_lt _) (sumR_lt _)) (sumR_lt _), HS3.out]; rfl
        generalize hq1 : sumR (la.take k) = q1 at hxs
        generalize hq2 : sumR (lb.take k) = q2 at hxs
        generalize hq3 : sumR (List.replicate k 0) = q3 at hxs
        generalize hq4 : sumR (xorL la lb k) = q4 at hxs
        have HQ := Lib.hid (And.intro hq1 (And.intro hq2 (And.intro hq3 hq4)))
        have hki : (k : Int) ≤ (ca : Int) ∧ (k : Int) ≤ (cb : Int) := by have := HR4.out.1.len; have := HR4.out.2.1.len; omega
        obtain ⟨hki1, hki2⟩ := hki
        have hk0 : (0 : Int) ≤ (k : Int) := by omega
        clear hq1 hq2 hq3 hq4 hi hz0 hz1 hz2 hown hgr hb5 hz5 HS3 hlk hlk2
        go_upto_region 10 with (fail)
        go_cut [62] (fun x W => x = .bool false ∧ Below wr.heap.size wr W)
        case first =>
          go_region_held3 (fun W => True) (first | exact trivial)
            ((first
              | (go_at_call_of 25 ca
                 refine (HSM.out _ _ (la.take k) ?_).mono ?_
                 · first | exact Sl.keeps HR4.out.2.2.2.2.1 (below_keeps (below_drew0 wr) _) | exact Sl.keeps HR4.out.2.2.2.2.1 (below_keeps H5.out.1 _)
                 rintro e w' ⟨rfl, rfl⟩
                 rw [HQ.out.1])
              | (go_at_call_of 25 cb
                 refine (HSM.out _ _ (lb.take k) ?_).mono ?_
                 · first | exact Sl.keeps HR4.out.2.2.2.2.2 (below_keeps (below_drew0 wr) _) | exact Sl.keeps HR4.out.2.2.2.2.2 (below_keeps H5.out.1 _)
                 rintro e w' ⟨rfl, rfl⟩
                 rw [HQ.out.2.1])
              | (go_at_call_of 25 cu
                 refine (HSM.out _ _ (xorL la lb k) ?_).mono ?_
                 · exact Sl.keeps (HR4.out.2.2.2.1.any (by rw [HXL.out]; omega)) (below_keeps H5.out.1 _)
                 rintro e w' ⟨rfl, rfl⟩
                 rw [HQ.out.2.2.2])
              | (go_at_call 25
                 refine (HSM.out _ _ (List.replicate k 0) H5.out.2).mono ?_
                 rintro e w' ⟨rfl, rfl⟩
                 rw [HQ.out.2.2.1])))
          all_goals
            go_wp2_with fail
            go_meet
            case rel => exact ⟨by first | rfl | simp, H5.out.1⟩
        case rest =>
          obtain ⟨rfl, hb6⟩ := hcut
          obtain ⟨w6, hw6⟩ : ∃ w6, w6 = wc := ⟨_, rfl⟩
          subst hw6
          have hra := HR4.out.1.under hb6
          have hbr := HR4.out.2.2.1.trans (hb6.mono HR4.out.2.2.1.size)
          clear H5 HSM HQ hxs hmk HR4 HXL
          by_cases hn0 : la.length = 0
          · go_wp2_with fail
            go_ret
            exact ⟨rfl, hbr⟩
          · have hla0 : la ≠ [] := by intro e; subst e; simp at hn0
            have H6 := Lib.hid (And.intro hra hbr)
            clear hra hbr hb6
            obtain ⟨N, hN⟩ : ∃ N, la.length = N + 1 := ⟨la.length - 1, by omega⟩
            have hx : la[N]? = some la[N] := List.getElem?_eq_getElem (by omega)
            obtain ⟨ga, ca', hv1, _, hl1, hc1⟩ := H6.out.1.form hla0
            simp only [Value.slice.injEq, true_and] at hv1
            obtain ⟨rfl, rfl⟩ := hv1
            have cc1 := hc1 N (bv la[N]) (by simp [hx])
            rw [addn, Nat.zero_add] at cc1
            have HSA := Lib.hid (Sum_any w6 (show Bytes (fun _ => True) w6 (.slice (some ⟨ga, 0, none⟩) N ca) (la.take N) from Bytes.take (H6.out.1.any (by omega)) N (by omega)))
            have hq : (4294967295 : Int) - (sumR (la.take N) : Int) = (crcR 4294967295 (la.take N) : Int) := by have := crcR_lt (la.take N) 4294967295 (by decide); unfold sumR; omega
            have hql := crcR_lt (la.take N) 4294967295 (by decide)
            have hsl := sumR_lt (la.take N)
            have HSN : Hid (crcBits 8 (crcR 4294967295 (la.take N) ^^^ la[N].toNat) = crcR 4294967295 la) := Lib.hid (by
              have h := crcR_snoc 4294967295 (la.take N) la[N]
              rw [← take_snoc hx, List.take_of_length_le (by omega)] at h
              exact h.symm)
            generalize sumR (la.take N) = sa at HSA hq hsl
            generalize crcR 4294967295 (la.take N) = qa at hq hql HSN
            simp only [bv] at cc1
            have hxl := la[N].toNat_lt
            generalize la[N].toNat = x at cc1 hxl HSN
            obtain ⟨z, hz⟩ : ∃ z, qa ^^^ x = z := ⟨_, rfl⟩
            have hzl : z < 4294967296 := by rw [← hz]; exact Nat.xor_lt_two_pow (n := 32) hql (by omega)
            have hxr : bits .xor .u32 (qa : Int) (x : Int) = (z : Int) := by rw [xor32 qa x hql (by omega), hz]
            rw [hz] at HSN
            clear hz hx hc1 hla0
            have hca : N + 1 ≤ ca := by have := H6.out.1.len; omega
            have hN2 : N + 1 ≤ 3000 := by omega
            have HLN := Lib.hid hN
            rw [hN]
            clear hN hla hlb hn1 hn2 hn0
            go_wp2_with fail
            refine HSA.out.mono ?_
            rintro e w' ⟨rfl, rfl⟩
            go_wp2_with fail
            go_loopw [11, 10] (fun i x W => ∃ j : Nat, j ≤ 8 ∧ i = .int .i64 j ∧ x = .int .u32 (crcBits j z) ∧ W = w6) (fun i _ _ => 8 - (intOf i).toNat)
            case atStart => exact ⟨0, Nat.zero_le _, rfl, rfl, rfl⟩
            case round =>
              obtain ⟨j, hj, rfl, rfl, rfl⟩ := hrel
              have hql := crcBits_lt j z hzl
              have hqs := crcBits_snoc j z
              by_cases hj8 : j < 8
              · generalize crcBits j z = q at hql hqs
                by_cases hodd : q % 2 = 1
                · have hm : ((q : Int) % 2 == 1) = true := by simp; omega
                  have hm2 : (q : Int) % 2 = 1 := by omega
                  have hgo : bits .xor .u32 ((q : Int) / 2) 3988292384 = ((crcBit q : Nat) : Int) := by
                    unfold crcBit
                    rw [if_pos hodd, show (q : Int) / 2 = ((q / 2 : Nat) : Int) by omega, show (3988292384 : Int) = ((3988292384 : Nat) : Int) from rfl, xor32 _ _ (by omega) (by decide)]
                  go_wp2_with fail
                  go_roundw
                  · exact ⟨j + 1, hj8, by simp, by rw [hqs], trivial⟩
                  · simp [intOf]; omega
                · have hm : ((q : Int) % 2 == 1) = false := by simp; omega
                  have hm2 : (q : Int) % 2 = 0 := by omega
                  have hgo : (q : Int) / 2 = ((crcBit q : Nat) : Int) := by
                    unfold crcBit
                    rw [if_neg hodd, Nat.xor_zero]; omega
                  go_wp2_with fail
                  go_roundw
                  · exact ⟨j + 1, hj8, by simp, by rw [hqs], trivial⟩
                  · simp [intOf]; omega
              · have hje : j = 8 := by omega
                subst hje
                rw [HSN.out]
                clear hql hqs HSN hxr hq hzl cc1
                have HIN := Lib.hid (into_any bit (8 * ((N : Int) + 1)) wr (by omega) (by omega))
                obtain ⟨q, hq⟩ : ∃ q : Nat, bit % (8 * ((N : Int) + 1)) = q := ⟨(bit % (8 * ((N : Int) + 1))).toNat, by have := Int.emod_nonneg bit (show (8 * ((N : Int) + 1)) ≠ 0 by omega); omega⟩
                have hql : q < 8 * (N + 1) := by have := Int.emod_lt_of_pos bit (show 0 < 8 * ((N : Int) + 1) by omega); omega
                rw [hq] at HIN
                have HCU := Lib.hid (cut_any 3000 wr (H6.out.1.any (by rw [HLN.out]; omega)))
                rw [List.take_of_length_le (by rw [HLN.out]; omega)] at HCU
                rw [HLN.out] at HCU
                have HSQ := Lib.hid (Sum_any wr (H6.out.1.any (by rw [HLN.out]; omega)))
                clear hq
                go_wp2_with fail
                refine HIN.out.mono ?_
                rintro e w' ⟨rfl, rfl⟩
                go_wp2_with fail
                refine HCU.out.mono ?_
                rintro e w7 ⟨rc, rfl, hrc, hb7⟩
                obtain ⟨gc, cc, rfl, hgc, hlc, hcc⟩ := hrc.form (by intro e; have := HLN.out; rw [e] at this; cases this)
                rw [HLN.out] at hrc ⊢
                have hq8 : q / 8 < N + 1 := by omega
                obtain ⟨y, hx⟩ : ∃ y, la[q / 8]? = some y := ⟨_, List.getElem?_eq_getElem (by rw [HLN.out]; omega)⟩
                have c1 := hcc (q / 8) (bv y) (by simp [hx])
                rw [addn, Nat.zero_add] at c1
                obtain ⟨p, hp⟩ : ∃ p, q / 8 = p := ⟨_, rfl⟩
                obtain ⟨t, ht⟩ : ∃ t, q % 8 = t := ⟨_, rfl⟩
                rw [hp] at c1 hx hq8
                have hw9 : (q : Int) / 8 = (p : Int) := by omega
                have hw8 : IntKind.i64.wrap (p : Int) = (p : Int) := wrapI_small (by omega) (by omega)
                have htm : (q : Int).tmod 8 = (t : Int) := by rw [Int.tmod_eq_emod_of_nonneg (by omega)]; omega
                have hi1 : (p : Int) < (N : Int) + 1 := by omega
                have hi0 : (0 : Int) ≤ (p : Int) := by omega
                have ht8 : t < 8 := by omega
                have hfz := hrc.frozen p
                simp only [bv] at c1
                have hpl := y.toNat_lt
                have HX := Lib.hid hx
                clear HIN HSA hcc hx hp ht
                go_upto_region 24 with (fail)
                have hvx : bits .xor .u8 (y.toNat : Int) (IntKind.u8.wrap (2 ^ t)) = ((y ^^^ UInt8.ofNat (2 ^ t)).toNat : Int) := by
                  have h1 : IntKind.u8.wrap (2 ^ t) = ((2 ^ t : Nat) : Int) := pow8 t ht8
                  have h2 : 2 ^ t < 256 := Nat.lt_of_lt_of_le (Nat.pow_lt_pow_right (by omega) ht8) (by decide)
                  rw [h1, xor8 _ _ hpl h2, UInt8.toNat_xor, u8_ofNat, Nat.mod_eq_of_lt h2]
                have hvy : y ^^^ UInt8.ofNat (2 ^ t) ≠ y := flip_ne y t ht8
                generalize y ^^^ UInt8.ofNat (2 ^ t) = v at hvx hvy
                have HVY := Lib.hid hvy
                go_region_law (fail)
                have hrc8 := hrc.stored p v
                have hb8 : Below wr.heap.size w7 (w7.setCell ⟨gc, p, none⟩ (bv v)) := (Below.refl _ _).setCell hgc _
                obtain ⟨w8, hw8x⟩ : ∃ w8, w8 = (w7.setCell ⟨gc, p, none⟩ (bv v)).drew := ⟨_, rfl⟩
                have hb78 : Below wr.heap.size wr w8 := by rw [hw8x]; exact ⟨(hb7.trans hb8).os, (hb7.trans hb8).tape, (hb7.trans hb8).output, (hb7.trans hb8).size, (hb7.trans hb8).block⟩
                have hrc8 : OwnB wr.heap.size w8 (.slice (some ⟨gc, 0, none⟩) (N + 1) cc) (la.set p v) := by rw [hw8x]; exact hrc8.1
                rw [show Value.int .u8 (v.toNat : Int) = bv v from rfl, ← hw8x]
                clear hw8x hvx hfz c1 hpl htm
                have hra8 := H6.out.1.under hb78
                have hls : (la.set p v).length = N + 1 := by rw [List.length_set]; exact HLN.out
                have HS8 := Lib.hid (Sum_any w8 (hra8.any (by rw [HLN.out]; omega)))
                rw [HLN.out] at HS8
                have hcc8 := World.ownsRow.cells hrc8 (g := gc) rfl p (bv v) (by rw [List.getElem?_map, List.getElem?_set_self (by rw [HLN.out]; omega)]; rfl)
                rw [addn, Nat.zero_add] at hcc8
                simp only [bv] at hcc8
                have hra8' := hra8
                have hrc8' := hrc8
                unfold OwnB at hra8' hrc8'
                rw [HLN.out] at hra8 hra8'
                rw [hls] at hrc8'
                have hfa := hra8.frozen p
                have haa := World.ownsRow.cells (show w8.ownsRow w.heap.size 5 1 (.slice (some ⟨ga, 0, none⟩) la.length ca) la.length (la.map bv) by rw [HLN.out]; exact hra8') (g := ga) rfl p (bv y) (by simp [HX.out])
                rw [addn, Nat.zero_add] at haa
                simp only [bv] at haa
                have hra9 := hra8.stored p v
                have hrc9 : OwnB wr.heap.size (w8.setCell ⟨ga, p, none⟩ (bv v)) (.slice (some ⟨gc, 0, none⟩) (N + 1) cc) (la.set p v) := by unfold OwnB; rw [hls]; exact World.ownsRow.kept hrc8' hra9.2 (.inr (by simp [Value.ownBlock]; omega))
                have hb9 : Below w.heap.size w (w8.setCell ⟨ga, p, none⟩ (bv v)) := (H6.out.2.trans (hb78.mono H6.out.2.size)).setCell (by assumption) _
                have HSX := Lib.hid (And.intro (Sum_any _ (hra9.1.any (by rw [hls]; omega))) (And.intro (Sum_any _ (hrc9.any (by rw [hls]; omega))) hb9))
                have hne9 := sumR_set la p (by rw [HLN.out]; omega) v (by intro e; rw [List.getElem?_eq_getElem (by rw [HLN.out]; omega)] at HX; exact HVY.out (e.trans (Option.some.inj HX.out)))
                have hsq : (4294967295 : Int) - (crcR 4294967295 la : Int) = (sumR la : Int) := by have := crcR_lt la 4294967295 (by decide); unfold sumR; omega
                have hql1 := sumR_lt la
                have hbe1 : ((sumR la : Int) == (sumR la : Int)) = true := by simp
                have hbe2 : ((sumR (la.set p v) : Int) == (sumR (la.set p v) : Int)) = true := by simp
                have hbe3 : ((sumR (la.set p v) : Int) != (sumR la : Int)) = true := by simp; omega
                simp only [bv] at HSX
                generalize sumR (la.set p v) = s2 at *
                generalize sumR la = s1 at *
                generalize crcR 4294967295 la = r1 at *
                clear hra8 hrc8 hra9 hrc9 hb9 hb78 hne9 hrc hb7
                go_wp2_with fail
                refine HS8.out.mono ?_
                rintro e w' ⟨rfl, rfl⟩
                go_wp2_with fail
                refine HSX.out.1.mono ?_
                rintro e w' ⟨rfl, rfl⟩
                go_wp2_with fail
                refine HSX.out.2.1.mono ?_
                rintro e w' ⟨rfl, rfl⟩
                go_wp2_with fail
                refine HSX.out.2.1.mono ?_
                rintro e w' ⟨rfl, rfl⟩
                go_wp2_with fail
                go_ret
                exact ⟨rfl, HSX.out.2.2⟩
end Go.Proofs.YtlffgepnhhnadaaDoor.Pl
