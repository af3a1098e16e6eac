/- The document's sum and numbers, walked. plumbref17's Parse, walked. -/
import Derived.Test.YtlffgepnhhnadaaGreatDoorRfA
import Derived.Test.YtlffgepnhhnadaaGreatDoorRfE
import Derived.Test.YtlffgepnhhnadaaGreatDoorPlain
namespace Go.Proofs.YtlffgepnhhnadaaGreatDoor.Pl
section
open Go.RowKit

set_option maxRecDepth 10000 in
theorem RSum_any {ok : Nat → Prop} {v : Value} {l : List UInt8} (w : World) (hv : Bytes ok w v l) :
    Calls Tryz.prog 10 #[v] w fun e w' => e = .returned (.int .u32 (sumR l)) ∧ w = w' := by
  obtain ⟨A, c, rfl, hc, hl2, hrow⟩ := hv
  have HR := Lib.hid hrow
  clear hrow
  go_enter Tryz.func10, Tryz.ntmps10
  go_wp2_with fail
  go_loopw [4, 3] (fun i x wr => ∃ k : Nat, k ≤ l.length ∧ i = .int .i64 k ∧ x = .int .u32 (crcR 4294967295 (l.take k)) ∧ wr = w) (fun i _ _ => l.length - (intOf i).toNat)
  case atStart => exact ⟨0, Nat.zero_le _, rfl, rfl, rfl⟩
  case round =>
    obtain ⟨k, hk, rfl, rfl, rfl⟩ := hrel
    have hxl := crcR_lt (l.take k) 4294967295 (by omega)
    by_cases hkl : k < l.length
    · have hkg : l[k]? = some l[k] := List.getElem?_eq_getElem hkl
      obtain ⟨b, o, rfl, _, _, hcell⟩ := HR.out.at (by intro e; have h := congrArg List.length e; rw [List.length_map] at h; simp only [List.length_nil] at h; omega)
      have hcc := hcell k (bv l[k]) (by simp [hkg])
      simp only [bv] at hcc
      clear hcell
      have HN : Hid (crcR 4294967295 (l.take (k + 1)) = crcByte (crcR 4294967295 (l.take k)) l[k]) := Lib.hid (by rw [List.take_add_one, hkg]; exact crcR_snoc _ _ _)
      obtain ⟨y, hy⟩ : ∃ y, crcR 4294967295 (l.take k) = y := ⟨_, rfl⟩
      rw [hy] at HN hxl ⊢
      clear hy hkg
      have hcl := l[k].toNat_lt
      simp only [crcByte] at HN
      generalize l[k].toNat = d at hcc hcl HN
      have hzl : y ^^^ d < 4294967296 := Nat.xor_lt_two_pow (n := 32) hxl (by omega)
      have hs0 := refS_zero y d
      generalize y ^^^ d = z at hzl hs0 HN
      have HS0 := Lib.hid hs0
      clear hs0
      go_wp2_with fail
      go_loopw [6, 3, 5] (fun i x t wr' => ∃ j : Nat, j ≤ 8 ∧ i = .int .i64 j ∧ x = .int .u32 (refS j z d) ∧ t = .int .u8 (d / 2 ^ j : Nat) ∧ wr' = wr) (fun i _ _ _ => 8 - (intOf i).toNat)
      case atStart => exact ⟨0, Nat.zero_le _, rfl, by rw [HS0.out], by simp, rfl⟩
      case round =>
        obtain ⟨j, hj, rfl, rfl, rfl, rfl⟩ := hrel
        have hql := refS_lt (k := j) hzl hcl
        have hnx := refS_next j z d
        have htl : d / 2 ^ j < 256 := Nat.lt_of_le_of_lt (Nat.div_le_self _ _) hcl
        have hth : d / 2 ^ (j + 1) = d / 2 ^ j / 2 := by rw [Nat.pow_succ, ← Nat.div_div_eq_div_mul]
        by_cases hj8 : j < 8
        · generalize refS j z d = q at hql hnx ⊢
          generalize d / 2 ^ j = t at htl hnx hth ⊢
          have HTH := Lib.hid hth
          clear hth
          have hxq : bits .xor .u32 ((q : Int) / 2) 3988292384 = ((q / 2 ^^^ 3988292384 : Nat) : Int) := by
            have := xor32 (q / 2) 3988292384 (by omega) (by decide)
            rw [Int.natCast_ediv] at this; exact this
          have HXQ := Lib.hid hxq
          clear hxq
          by_cases hq : q % 2 = t % 2
          · rw [if_neg (by simp [hq])] at hnx
            have HNX := Lib.hid hnx
            have hbe : ((q : Int) % 2 != (t : Int) % 2) = false := by simp; omega
            clear hnx
            go_wp2
            go_roundw
            · exact ⟨j + 1, hj8, by simp, by rw [← HNX.out]; simp, by rw [HTH.out]; simp, trivial⟩
            · simp [intOf]; omega
          · rw [if_pos hq] at hnx
            have HNX := Lib.hid hnx
            have hbe : ((q : Int) % 2 != (t : Int) % 2) = true := by simp; omega
            clear hnx
            go_wp2
            go_roundw
            · exact ⟨j + 1, hj8, by simp, by rw [← HNX.out, HXQ.out], by rw [HTH.out]; simp, trivial⟩
            · simp [intOf]; omega
        · have hje : j = 8 := by omega
          subst hje
          rw [refS_end hcl]
          go_wp2
          go_roundw
          · exact ⟨k + 1, hkl, by simp, by rw [HN.out], trivial⟩
          · simp [intOf]; omega
    · have hke : l.take k = l := List.take_of_length_le (by omega)
      rw [hke] at hxl ⊢
      have hx1 : IntKind.u32.wrap (4294967295 - (crcR 4294967295 l : Int)) = (sumR l : Int) := by
        rw [wrap_u32n]; unfold sumR; omega
      go_wp2
      go_ret
      exact ⟨by rw [← hx1]; rfl, rfl⟩

theorem RWord_any {ok : Nat → Prop} {v : Value} {l : List UInt8} (at_ : Nat) (w : World) (hv : Bytes ok w v l) (hl : at_ + 4 ≤ l.length) :
    Calls Tryz.prog 38 #[v, .int .i64 at_] w fun e w' => e = .returned (.int .i64 (wd l at_ 4 false : Nat)) ∧ w = w' := by
  obtain ⟨A, c, rfl, hc, hl2, hrow⟩ := hv
  obtain ⟨b, o, rfl, hb, _, hcell⟩ := hrow.at (by intro h; simp at h; subst h; simp at hl)
  have HC := Lib.hid hcell
  clear hcell hrow
  go_enter Tryz.func38, Tryz.ntmps38
  go_wp2_with fail
  go_loopw [6, 5] (fun i x W => ∃ k : Nat, k ≤ 4 ∧ i = .int .i64 ((at_ + k : Nat) : Int) ∧ x = .int .i64 (decB ((l.drop at_).take k) false : Nat) ∧ W = w) (fun i _ _ => at_ + 4 - (intOf i).toNat)
  case atStart => exact ⟨0, Nat.zero_le _, by simp, by simp [decB], rfl⟩
  case round =>
    obtain ⟨k, hk, rfl, rfl, rfl⟩ := hrel
    by_cases hkl : k < 4
    · have hx : at_ + k < l.length := by omega
      have cc := HC.out (at_ + k) (bv l[at_ + k]) (by rw [List.getElem?_map, List.getElem?_eq_getElem hx]; rfl)
      have hnx := dec_next false hx
      have hvl := decB_lt false ((l.drop at_).take k)
      have hck := (l[at_ + k]).toNat_lt
      simp only [Bool.false_eq_true, if_false] at hnx
      generalize hdv : decB ((l.drop at_).take k) false = dv at hnx hvl ⊢
      simp only [bv] at cc
      generalize (l[at_ + k]).toNat = cv at cc hnx hck
      have hlen : ((l.drop at_).take k).length = k := by simp; omega
      rw [hlen] at hvl
      have hp7 : (256 : Nat) ^ k ≤ 16777216 := Nat.le_trans (Nat.pow_le_pow_right (by omega) (show k ≤ 3 by omega)) (by decide)
      have hdv8 : dv < 16777216 := by omega
      have HN := Lib.hid hnx
      clear hnx hdv hvl hp7 hlen
      go_wp2
      go_roundw
      · refine ⟨k + 1, by omega, by simp; omega, ?_, trivial⟩
        rw [HN.out]; simp; omega
      · simp [intOf]; omega
    · have hke : k = 4 := by omega
      subst hke
      go_wp2
      go_ret
      exact ⟨rfl, rfl⟩
end
section
open Go.RowKit

theorem parse_tree (l : List UInt8) (d : Int) (hl : l.length ≤ 65536) : (parseR l d 65536).map (·.1) = match treeR l (min d 256) 257 1 0 0 with | .error e => .error e | .ok y => if y.2 < l.length then .error ((y.2 : Int), 174) else .ok y.1 := by
  unfold parseR treeR
  rw [if_neg (by simp; omega)]
  cases geomR l (min d 256) 257 1 0 0 with
  | error e => rfl
  | ok y =>
    obtain ⟨r, a⟩ := y
    show Except.map (·.1) (if a < l.length then (.error ((a : Int), 174) : Except PErr (G × List Bool)) else .ok r) = if a < l.length then .error ((a : Int), 174) else .ok r.1
    by_cases h : a < l.length
    · rw [if_pos h, if_pos h]; rfl
    · rw [if_neg h, if_neg h]; rfl
theorem wk_new {ok : Nat → Prop} {v : Value} {l : List UInt8} (depth : Int) (w : World) (hv : Bytes ok w v l) :
    IsWk w.heap.size (w.alloc (.cells #[v, .int .i64 0, .int .i64 depth, .int .i64 0, .int .i64 0, .slice none 0 0] 99)) w.heap.size v l 0 depth none 0 ∧ Below w.heap.size w (w.alloc (.cells #[v, .int .i64 0, .int .i64 depth, .int .i64 0, .int .i64 0, .slice none 0 0] 99)) ∧
    ∀ b, b < w.heap.size → AptW (w.alloc (.cells #[v, .int .i64 0, .int .i64 depth, .int .i64 0, .int .i64 0, .slice none 0 0] 99)) w.heap.size b := by
  obtain ⟨w1, hw1⟩ : ∃ w1, w1 = w.alloc (.cells #[v, .int .i64 0, .int .i64 depth, .int .i64 0, .int .i64 0, .slice none 0 0] 99) := ⟨_, rfl⟩
  have hb1 : Below w.heap.size w w1 := by subst hw1; exact (Below.refl _ w).alloc (Nat.le_refl _) _
  have hx1 : w1.heap[w.heap.size]? = some (.cells #[v, .int .i64 0, .int .i64 depth, .int .i64 0, .int .i64 0, .slice none 0 0] 99 (0, 0)) := by subst hw1; exact World.alloc_heap_new _ _
  rw [← hw1]
  have ha : ∀ b, b < w.heap.size → AptW w1 w.heap.size b := fun b hb => ⟨Nat.lt_of_lt_of_le hb hb1.size, by omega, fun u hu => by simp [World.cell?, hx1] at hu; subst hu; simp [Value.ownBlock]⟩
  have hv1 : Bytes (fun b => b < w.heap.size) w1 v l := (hv.mono fun b hb _ => hb).keeps (below_keeps hb1 _)
  exact ⟨⟨Nat.le_refl _, Nat.le_refl _, Nat.zero_le _, (fun e he => by cases he), hv1.mono fun b _ hb => ha b hb, _, [], hx1, ⟨by simp, .inl ⟨rfl, rfl⟩⟩, by simp, by simp [Value.ownBlock]⟩, hb1, ha⟩

def WholeR : Except PErr G → G → Option PErr → Prop
  | .ok x, g, er => g = x ∧ er = none
  | .error z, g, er => er = some z ∧ g = .mk 0 [] [] []
/-- what the whole of a walk gives -/
def WholeP (w : World) (R : Except PErr G) (cs : List Value) (wb : Nat) (er : Option PErr) (w' : World) : Prop :=
  Below w.heap.size w w' ∧ w'.cell? ⟨wb, 3, none⟩ = some (.int .i64 (erC er)) ∧ w'.cell? ⟨wb, 4, none⟩ = some (.int .i64 (erP er)) ∧ w.heap.size ≤ wb ∧ wb < w'.heap.size ∧ (∀ e, er = some e → e.2 ≠ 0) ∧ ∃ g, IsG (fun b => w.heap.size ≤ b) w' g cs ∧ WholeR R g er

set_option maxRecDepth 100000 in
set_option maxHeartbeats 2000000 in
theorem whole_any {ok : Nat → Prop} {v : Value} {l : List UInt8} (depth : Int) (w : World) (hv : Bytes ok w v l) (hl : l.length ≤ 65536) :
    Calls Tryz.prog 49 #[v, .int .i64 depth, .int .i64 65536] w fun e w' => ∃ cs wb er, e = .returned (.tuple #[.agg cs.toArray, .pointer (some ⟨wb, 0, none⟩)]) ∧ WholeP w ((parseR l depth 65536).map (·.1)) cs wb er w' := by
  obtain ⟨w1, hw1⟩ : ∃ w1, w1 = w.alloc (.cells #[.int .i64 0, .slice none 0 0, .slice none 0 0, .slice none 0 0] 27) := ⟨_, rfl⟩
  have hb1 : Below w.heap.size w w1 := by subst hw1; exact (Below.refl _ w).alloc (Nat.le_refl _) _
  have hx1 : w1.heap[w.heap.size]? = some (.cells #[.int .i64 0, .slice none 0 0, .slice none 0 0, .slice none 0 0] 27 (0, 0)) := by subst hw1; exact World.alloc_heap_new _ _
  have hlt := lt_of_heap hx1
  have hv1 : Bytes ok w1 v l := hv.keeps (below_keeps hb1 ok)
  have HN := Lib.hid (wk_new (min depth 256) w1 hv1)
  have HX := Lib.hid (And.intro hb1 (And.intro hx1 hlt))
  have HT := Lib.hid (parse_tree l depth hl)
  obtain ⟨R, hR⟩ : ∃ R, (parseR l depth 65536).map (·.1) = R := ⟨_, rfl⟩
  rw [hR] at HT ⊢
  have hA : ∃ A c, v = .slice A l.length c := by obtain ⟨A, c, h, _⟩ := hv; exact ⟨A, c, h⟩
  obtain ⟨A, c, rfl⟩ := hA
  have hli : ¬ (65536 : Int) < (l.length : Int) := by omega
  clear hb1 hx1 hv1 hv hR
  go_enter Tryz.func49, Tryz.ntmps49
  go_upto_region 1 with (fail)
  rw [← hw1]
  clear hw1
  go_cut [8] (fun x W => x = .pointer (some ⟨w1.heap.size, 0, none⟩) ∧ W = w1.alloc (.cells #[.slice A l.length c, .int .i64 0, .int .i64 (min depth 256), .int .i64 0, .int .i64 0, .slice none 0 0] 99))
  case first =>
    go_wp2
    all_goals
      go_meet
      case rel =>
        refine ⟨rfl, ?_⟩
        first
          | (rw [show min depth 256 = 256 by omega])
          | (rw [show min depth 256 = depth by omega])
  case rest =>
  obtain ⟨rfl, rfl⟩ := hcut
  obtain ⟨w2, hw2⟩ : ∃ w2, w2 = w1.alloc (.cells #[.slice A l.length c, .int .i64 0, .int .i64 (min depth 256), .int .i64 0, .int .i64 0, .slice none 0 0] 99) := ⟨_, rfl⟩
  rw [← hw2] at HN ⊢
  clear hw2
  have HG := Lib.hid (geo_any 257 w1.heap.size w1.heap.size 0 0 (.slice A l.length c) l (min depth 256) 1 0 w2 HN.out.1 HN.out.2.1.size (by omega) (by omega) (by omega) (by omega) (.inl rfl))
  go_wp2_with fail
  refine HG.out.mono ?_
  rintro e w3 ⟨g, u, a, er, oc, rfl, ⟨cs, rfl, hig⟩, hwk, hst, hm⟩
  have hb3 : Below w.heap.size w w3 := HX.out.1.trans ((HN.out.2.1.trans hst.2).mono (Nat.le_of_lt HX.out.2.2))
  have hr3 := (hst.1 _ (HN.out.2.2 _ HX.out.2.2)).1.trans ((HN.out.2.1.block _ HX.out.2.2).trans HX.out.2.1)
  have ha3 := (hst.1 _ (HN.out.2.2 _ HX.out.2.2)).2
  obtain ⟨gk, gl, gr, gp⟩ := g
  have hig2 := hig
  simp only [IsG] at hig2
  obtain ⟨x1, x2, x3, rfl, ⟨_, D1, m1, rfl, _⟩, ⟨_, ⟨D2, m2, rfl, _⟩, _⟩, _, ⟨D3, m3, rfl, _⟩, _⟩ := hig2
  obtain ⟨w4, hw4⟩ : ∃ w4, w4 = w3.alloc (.cells #[.int .i64 gk, .slice D1 gl.length m1, .slice D2 gr.length m2, .slice D3 gp.length m3] 27) := ⟨_, rfl⟩
  have hb4 : Below w3.heap.size w3 w4 := by subst hw4; exact (Below.refl _ w3).alloc (Nat.le_refl _) _
  have hx4 : w4.heap[w3.heap.size]? = some (.cells #[.int .i64 gk, .slice D1 gl.length m1, .slice D2 gr.length m2, .slice D3 gp.length m3] 27 (0, 0)) := by subst hw4; exact World.alloc_heap_new _ _
  have hwk4 := hwk.below hb4
  have hs34 : KeepW w1.heap.size w3 w4 := .of_below hwk.lt hb4
  have hr4 := (hs34 _ ha3).1.trans hr3
  have ha4 := (hs34 _ ha3).2
  have hbw4 : Below w.heap.size w w4 := hb3.trans (hb4.mono hb3.size)
  have hig4 : IsG (fun b => NewW w2 w3 w1.heap.size b) w4 (.mk gk gl gr gp) _ := hig.keeps (below_keeps hb4 _)
  have hl43 : w3.heap.size < w4.heap.size := lt_of_heap hx4
  have hl12 : w1.heap.size < w3.heap.size := hwk.lt
  have ha43 : AptW w4 w1.heap.size w3.heap.size := hwk.apt hb4 _ (Nat.le_refl _) hl43
  have H4 := Lib.hid (And.intro hbw4 (And.intro hwk4 (And.intro hr4 (And.intro ha4 (And.intro hx4 (And.intro hig4 ha43))))))
  have hs2 := HN.out.2.1.size
  have HM := Lib.hid hm
  -- the end: four cells stored in the result's
  have HZ : Hid (∀ V, KeepW w1.heap.size w4 V → (V.cell? ⟨w.heap.size, 0, none⟩ = some (.int .i64 0) ∧ V.cell? ⟨w.heap.size, 1, none⟩ = some (.slice none 0 0) ∧ V.cell? ⟨w.heap.size, 2, none⟩ = some (.slice none 0 0) ∧ V.cell? ⟨w.heap.size, 3, none⟩ = some (.slice none 0 0)) ∧
      V.frozen? ⟨w.heap.size, 0, none⟩ = false ∧ V.frozen? ⟨w.heap.size, 1, none⟩ = false ∧ V.frozen? ⟨w.heap.size, 2, none⟩ = false ∧ V.frozen? ⟨w.heap.size, 3, none⟩ = false) := Lib.hid fun V hs => by
    have k1 := (hs _ H4.out.2.2.2.1).1.trans H4.out.2.2.1
    exact ⟨⟨cell_row (cs := [_, _, _, _]) (j := 0) k1 rfl, cell_row (cs := [_, _, _, _]) (j := 1) k1 rfl, cell_row (cs := [_, _, _, _]) (j := 2) k1 rfl, cell_row (cs := [_, _, _, _]) (j := 3) k1 rfl⟩, frozen_row (cs := [_, _, _, _]) k1 0, frozen_row (cs := [_, _, _, _]) k1 1, frozen_row (cs := [_, _, _, _]) k1 2, frozen_row (cs := [_, _, _, _]) k1 3⟩
  have HE : Hid (∀ (V W : World) (a : Nat) (er : Option PErr) (oc : Nat) (y0 y1 y2 y3 : Value) (g : G), IsWk w1.heap.size V w1.heap.size (.slice A l.length c) l a (min depth 256) er oc → StepW w1.heap.size w1.heap.size w4 V → IsG (fun b => AptW w4 w1.heap.size b ∧ w1.heap.size < b) w4 g [y0, y1, y2, y3] → WholeR R g er →
      W = (((V.setCell ⟨w.heap.size, 0, none⟩ y0).setCell ⟨w.heap.size, 1, none⟩ y1).setCell ⟨w.heap.size, 2, none⟩ y2).setCell ⟨w.heap.size, 3, none⟩ y3 →
      W.heap[w.heap.size]? = some (.cells #[y0, y1, y2, y3] 27 (0, 0)) ∧ WholeP w R [y0, y1, y2, y3] w1.heap.size er W) := Lib.hid fun V W a er oc y0 y1 y2 y3 g hV hs hg hr hW => by
    obtain ⟨k1, k2⟩ := hs.1 _ H4.out.2.2.2.1
    obtain ⟨q1, q2, q3, q4⟩ := four_set (k1.trans H4.out.2.2.1) _ _ _ _ hW
    have hne : w1.heap.size ≠ w.heap.size := by have := HX.out.2.2; omega
    refine ⟨q1, q4 _ _ (Nat.le_refl _) (H4.out.1.trans (hs.2.mono (by have := HX.out.2.2; omega))), (World.cell?_of_block (a := ⟨w1.heap.size, 3, none⟩) (q2 _ hne)).trans hV.c3, (World.cell?_of_block (a := ⟨w1.heap.size, 4, none⟩) (q2 _ hne)).trans hV.c4, Nat.le_of_lt HX.out.2.2, by rw [q3]; exact hV.lt, hV.nz, g, ?_, hr⟩
    exact (hg.keeps fun b o hb ho _ => (q2 b (by have := hb.2; have := HX.out.2.2; omega)).trans ((hs.1 b hb.1).1.trans ho)).mono fun b _ hb => by have := hb.2; have := HX.out.2.2; omega
  have hig5 : IsG (fun b => AptW w4 w1.heap.size b ∧ w1.heap.size < b) w4 (.mk gk gl gr gp) [.int .i64 gk, .slice D1 gl.length m1, .slice D2 gr.length m2, .slice D3 gp.length m3] := hig4.mono fun b _ hb => ⟨(hs34 b hb.1).2, by have := hb.2; have := HN.out.1.lt; omega⟩
  have HI5 := Lib.hid hig5
  have hd := hwk.len
  have hole := hwk.le
  cases er with
  | some z =>
    have c3 : w4.cell? ⟨w1.heap.size, 3, none⟩ = some (.int .i64 z.2) := hwk4.c3
    have hnz := hwk.nz z rfl
    have hb : (z.2 == 0) = false := by simpa using hnz
    have hb' : (z.2 != 0) = true := by simpa using hnz
    have hRz : R = .error z := by
      rw [HT.out]
      cases hq : treeR l (min depth 256) 257 1 0 0 with
      | error e => rw [hq] at hm; cases hm; rfl
      | ok y => rw [hq] at hm; cases hm.2.2
    have HRR := Lib.hid hRz
    obtain ⟨⟨z0, z1, z2, z3⟩, g0, g1, g2, g3⟩ := HZ.out w4 (.refl _ _)
    clear hig hig4 hig5 hwk hst hm hb3 hr3 ha3 hb4 hx4 hwk4 hs34 hr4 ha4 hbw4 ha43 hRz
    generalize z.2 = cc at *
    go_upto_region 7 with (fail)
    rw [← hw4]
    clear hw4
    go_wp2
    obtain ⟨q1, q2⟩ := HE.out w4 _ a (some z) oc (.int .i64 0) (.slice none 0 0) (.slice none 0 0) (.slice none 0 0) (.mk 0 [] [] []) H4.out.2.1 (.refl _ _ _) (zeroG _ _) (by rw [HRR.out]; exact ⟨rfl, rfl⟩) rfl
    refine bodyPost_ret (results_geom_tmp (g := w.heap.size) (cs := #[.int .i64 0, .slice none 0 0, .slice none 0 0, .slice none 0 0]) Tryz.results49 _ _ rfl rfl q1) rfl ?_
    exact ⟨[_, _, _, _], _, _, rfl, q2⟩
  | none =>
    have c3 : w4.cell? ⟨w1.heap.size, 3, none⟩ = some (.int .i64 0) := hwk4.c3
    have c1 := hwk4.c1
    have hTr : treeR l (min depth 256) 257 1 0 0 = .ok (.mk gk gl gr gp, a) := by
      cases hq : treeR l (min depth 256) 257 1 0 0 with
      | error e => rw [hq] at hm; cases hm
      | ok y => rw [hq] at hm; obtain ⟨k1, k2, _⟩ := hm; rw [k1, k2]
    have HRT := Lib.hid hTr
    by_cases hal : a < l.length
    · have hRz : R = .error ((a : Int), 174) := by rw [HT.out, hTr]; simp only []; rw [if_pos hal]
      have HRR := Lib.hid hRz
      clear hig hig4 hig5 hwk hst hm hb3 hr3 ha3 hb4 hx4 hwk4 hs34 hr4 ha4 hbw4 ha43 hRz hTr
      go_upto_region 7 with (fail)
      rw [← hw4]
      clear hw4
      go_wp2_with fail
      refine (fault_any (a : Int) 174 w4 H4.out.2.1 (by decide)).mono ?_
      rintro e w5 ⟨rfl, h5, s5⟩
      have c3 : w5.cell? ⟨w1.heap.size, 3, none⟩ = some (.int .i64 174) := h5.c3
      obtain ⟨⟨z0, z1, z2, z3⟩, g0, g1, g2, g3⟩ := HZ.out w5 s5.1
      have H5 := Lib.hid (And.intro h5 s5)
      clear h5 s5
      go_wp2
      obtain ⟨q1, q2⟩ := HE.out w5 _ a (some ((a : Int), 174)) oc (.int .i64 0) (.slice none 0 0) (.slice none 0 0) (.slice none 0 0) (.mk 0 [] [] []) H5.out.1 H5.out.2 (zeroG _ _) (by rw [HRR.out]; exact ⟨rfl, rfl⟩) rfl
      refine bodyPost_ret (results_geom_tmp (g := w.heap.size) (cs := #[.int .i64 0, .slice none 0 0, .slice none 0 0, .slice none 0 0]) Tryz.results49 _ _ rfl rfl q1) rfl ?_
      exact ⟨[_, _, _, _], _, _, rfl, q2⟩
    · have hRz : R = .ok (.mk gk gl gr gp) := by rw [HT.out, hTr]; simp only []; rw [if_neg hal]
      have HRR := Lib.hid hRz
      have d0 := cell_row (cs := [_, _, _, _]) (j := 0) hx4 rfl
      have d1 := cell_row (cs := [_, _, _, _]) (j := 1) hx4 rfl
      have d2 := cell_row (cs := [_, _, _, _]) (j := 2) hx4 rfl
      have d3 := cell_row (cs := [_, _, _, _]) (j := 3) hx4 rfl
      obtain ⟨⟨z0, z1, z2, z3⟩, g0, g1, g2, g3⟩ := HZ.out w4 (.refl _ _)
      clear hig hig4 hig5 hwk hst hm hb3 hr3 ha3 hb4 hx4 hwk4 hs34 hr4 ha4 hbw4 ha43 hRz hTr
      go_upto_region 7 with (fail)
      rw [← hw4]
      clear hw4
      go_wp2
      obtain ⟨q1, q2⟩ := HE.out w4 _ a none oc (.int .i64 gk) (.slice D1 gl.length m1) (.slice D2 gr.length m2) (.slice D3 gp.length m3) (.mk gk gl gr gp) H4.out.2.1 (.refl _ _ _) HI5.out (by rw [HRR.out]; exact ⟨rfl, rfl⟩) rfl
      refine bodyPost_ret (results_geom_tmp (g := w.heap.size) (cs := #[.int .i64 gk, .slice D1 gl.length m1, .slice D2 gr.length m2, .slice D3 gp.length m3]) Tryz.results49 _ _ rfl rfl q1) rfl ?_
      exact ⟨[_, _, _, _], _, _, rfl, q2⟩
end
end Go.Proofs.YtlffgepnhhnadaaGreatDoor.Pl
