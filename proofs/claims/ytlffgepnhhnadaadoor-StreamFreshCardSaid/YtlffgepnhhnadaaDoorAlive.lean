/- The laws' first question, in plain Lean: a point, framed and read. The laws' first question, walked. -/
import Derived.Test.YtlffgepnhhnadaaDoorHex
import Derived.Deep.RegionHeld3
namespace Go.Proofs.YtlffgepnhhnadaaDoor.Pl
section
open Go.RowKit

def aliveG : G := .mk 1 [(4607182418800017408, 4611686018427387904)] [] []
def aliveB : List UInt8 := frameB (encG [false] aliveG 0)
theorem alive_check : checkR aliveG = none := by kernel_rfl
theorem alive_len : aliveB.length = 33 := by kernel_rfl
theorem alive_head : hexB (aliveB.take 13) = [53, 48, 52, 99, 52, 100, 51, 49, 48, 48, 48, 48, 48, 48, 49, 53, 48, 48, 48, 48, 48, 48, 48, 48, 48, 49] := by kernel_rfl
theorem alive_sum : sumR [49, 50, 51, 52, 53, 54, 55, 56, 57] = 3421780262 := by kernel_rfl
theorem alive_read : feedR 1 34 aliveB = ([aliveG], 33, [], none) := by kernel_rfl
end
section
open Go.RowKit

theorem alive_encl : (encG [false] aliveG 0).length = 21 := by kernel_rfl

set_option maxRecDepth 100000 in
set_option maxHeartbeats 2000000 in
theorem alive_any (w : World) (hg : ErrT w) : Calls Tryd.prog 22 #[] w fun e w' => e = .returned (.bool true) ∧ Below w.heap.size w w' := by
  have h0 := lt_of_cell hg
  obtain ⟨wa, hwa⟩ : ∃ wa, wa = w.alloc (.cells #[.int .u64 4607182418800017408, .int .u64 4611686018427387904] 71) := ⟨_, rfl⟩
  obtain ⟨w1, hw1⟩ : ∃ w1, w1 = wa.alloc (.cells #[.int .i64 1, .slice (some ⟨w.heap.size, 0, none⟩) 1 1, .slice none 0 0, .slice none 0 0] 51) := ⟨_, rfl⟩
  have hba : Below w.heap.size w wa := by rw [hwa]; exact (Below.refl _ w).alloc (Nat.le_refl _) _
  have hxa : wa.heap[w.heap.size]? = some (.cells #[.int .u64 4607182418800017408, .int .u64 4611686018427387904] 71 (0, 0)) := by rw [hwa]; exact World.alloc_heap_new _ _
  have hza : wa.heap.size = w.heap.size + 1 := by rw [hwa]; exact Array.size_push _
  have hb1a : Below wa.heap.size wa w1 := by rw [hw1]; exact (Below.refl _ wa).alloc (Nat.le_refl _) _
  have hb1 : Below w.heap.size w w1 := hba.trans (hb1a.mono hba.size)
  have hx1 : w1.heap[w.heap.size + 1]? = some (.cells #[.int .i64 1, .slice (some ⟨w.heap.size, 0, none⟩) 1 1, .slice none 0 0, .slice none 0 0] 51 (0, 0)) := by rw [hw1, ← hza]; exact World.alloc_heap_new _ _
  have hxp := (hb1a.block _ (lt_of_heap hxa)).trans hxa
  have hgm : IsG (fun _ => True) w1 aliveG [.int .i64 1, .slice (some ⟨w.heap.size, 0, none⟩) 1 1, .slice none 0 0, .slice none 0 0] := by
    simp only [aliveG, IsG]
    refine ⟨_, _, _, rfl, ⟨by simp [PtOk], _, _, rfl, Nat.le_refl _, by simp, .inr ⟨_, _, rfl, trivial, fun i c h => by rw [Nat.zero_add]; exact cell_row hxp (by simpa [ptCells] using h)⟩⟩, ⟨[], Sl.nil _ _, .nil⟩, [], Sl.nil _ _, rfl⟩
  have hl1 := lt_of_heap hx1
  have HGM := Lib.hid (And.intro hgm (And.intro hx1 (And.intro hb1 (hg.below hb1))))
  have HF := Lib.hid (Frame_any false w1 hgm (by simp [aliveG, depth, depths]) (by simp only [aliveG, SmallG, SmallGs, and_true]; decide) (fun _ => by rw [alive_encl]; omega) (fun _ => by simp [aliveG, begunG]))
  have g0 := cell_row (cs := [_, _, _, _]) (j := 0) hx1 rfl
  have g1 := cell_row (cs := [_, _, _, _]) (j := 1) hx1 rfl
  have g2 := cell_row (cs := [_, _, _, _]) (j := 2) hx1 rfl
  have g3 := cell_row (cs := [_, _, _, _]) (j := 3) hx1 rfl
  clear hba hxa hb1a hb1 hx1 hxp hgm hza hg
  go_enter Tryd.func22, Tryd.ntmps22
  go_upto_region 2 with (fail)
  rw [← hwa, ← hw1]
  clear hwa hw1
  go_wp2_with fail
  refine HF.out.mono ?_
  rintro e w2 ⟨fr, fe, rfl, hb2, hfr⟩
  rw [alive_check] at hfr
  simp only [alive_encl] at hfr
  rw [if_neg (by omega)] at hfr
  obtain ⟨hfo, rfl⟩ := hfr
  have hfo : OwnB w1.heap.size w2 fr aliveB := hfo
  obtain ⟨gf, cf, rfl, hgf, hgf2, _⟩ := hfo.form (by intro e; have := alive_len; rw [e] at this; cases this)
  have hcf : 33 ≤ cf := by
    rcases hfo.2 with ⟨hv, _⟩ | ⟨g', c', cur, hv, _, _, h3, _⟩
    · cases hv
    · cases hv; rw [alive_len] at h3; exact h3
  have hcf1 : (13 : Int) ≤ (cf : Int) := by omega
  rw [alive_len] at hfo ⊢
  have HN := Lib.hid (New_any 1 w2)
  have HO2 := Lib.hid (And.intro hfo hb2)
  have hs2 := hb2.size
  clear hfo hb2 HF g0 g1 g2 g3
  go_wp2_with fail
  refine HN.out.mono ?_
  rintro e w3 ⟨rfl, hb3, hst3⟩
  have hs3 := hb3.size
  have hO3 := HO2.out.1.under hb3
  have hby3 := hO3.bytes (by rw [alive_len]; omega)
  have hby13 : Bytes _ w3 (.slice (some ⟨gf, 0, none⟩) 13 cf) (aliveB.take 13) := Bytes.take (l := aliveB) (by rw [alive_len]; exact hby3) 13 (by rw [alive_len]; omega)
  have HX := Lib.hid (Hex_any w3 hby13 (by rw [List.length_take]; omega) (by intro e; have h := congrArg List.length e; rw [List.length_take, alive_len] at h; cases h))
  rw [alive_head] at HX
  have H3 := Lib.hid (And.intro hb3 (And.intro hst3 hO3))
  clear hb3 hst3 hO3 hby3 hby13 HN
  go_wp2_with fail
  refine HX.out.mono ?_
  rintro e w4 ⟨rfl, hb4⟩
  have H4 := Lib.hid hb4
  have hs4 := hb4.size
  clear hb4 HX
  obtain ⟨w5, hw5⟩ : ∃ w5, w5 = w4.alloc (.cells #[.int .u8 49, .int .u8 50, .int .u8 51, .int .u8 52, .int .u8 53, .int .u8 54, .int .u8 55, .int .u8 56, .int .u8 57] 5 (9, 10)) := ⟨_, rfl⟩
  have hb5 : Below w4.heap.size w4 w5 := by rw [hw5]; exact (Below.refl _ w4).alloc (Nat.le_refl _) _
  have hx5 : w5.heap[w4.heap.size]? = some (.cells #[.int .u8 49, .int .u8 50, .int .u8 51, .int .u8 52, .int .u8 53, .int .u8 54, .int .u8 55, .int .u8 56, .int .u8 57] 5 (9, 10)) := by rw [hw5]; exact World.alloc_heap_new _ _
  have hcs := Lib.run_convert_bytes_const (P := Tryd.prog) w4 35 5 #[.int .u8 49, .int .u8 50, .int .u8 51, .int .u8 52, .int .u8 53, .int .u8 54, .int .u8 55, .int .u8 56, .int .u8 57] 9 9 Tryd.underlying35 Tryd.underlying5
  rw [show (#[Value.int .u8 49, .int .u8 50, .int .u8 51, .int .u8 52, .int .u8 53, .int .u8 54, .int .u8 55, .int .u8 56, .int .u8 57] : Array Value).size = 9 from rfl] at hcs
  have hmk : Bytes (fun _ => True) w5 (.slice (some ⟨w4.heap.size, 0, none⟩) 9 9) [49, 50, 51, 52, 53, 54, 55, 56, 57] :=
    ⟨_, _, rfl, by decide, by decide, .inr ⟨_, _, rfl, trivial, fun i c h => by rw [Nat.zero_add]; exact cell_rowF hx5 (by simpa [bv] using h)⟩⟩
  have HS := Lib.hid (Sum_any w5 hmk)
  rw [alive_sum] at HS
  have H5 := Lib.hid hb5
  have hs5 := hb5.size
  clear hb5 hx5 hmk
  go_wp2_with fail
  rw [← hw5]
  clear hw5 hcs
  refine HS.out.mono ?_
  rintro e w' ⟨rfl, rfl⟩
  have hb35 : Below w3.heap.size w3 w5 := H4.out.trans (H5.out.mono hs4)
  have hst5 := H3.out.2.1.below hb35
  have hO5 := H3.out.2.2.under hb35
  have hby5 := hO5.bytes (by rw [alive_len]; omega)
  have hb15 : Below w1.heap.size w1 w5 := HO2.out.2.trans ((H3.out.1.mono hs2).trans (hb35.mono (by omega)))
  have hb25 : Below w2.heap.size w2 w5 := H3.out.1.trans (hb35.mono hs3)
  have hgw5 := HGM.out.2.2.2.below hb15
  have HFD := Lib.hid (Feed_any w5 hst5 hby5 (by rw [alive_len]; simp) (by omega) hgw5 (by omega) (by omega))
  rw [List.nil_append, alive_len, alive_read] at HFD
  have HB15 := Lib.hid hb15
  clear hb35 hst5 hO5 hby5 hb15 hb25 hgw5 HS
  go_upto_region 6 with (fail)
  go_cut [5, 6] (fun x5 x6 W => x6 = .nilIface ∧ ∃ vs, Below w2.heap.size w5 W ∧ Sl (NewS w5 W w2.heap.size) W x5 1 vs ∧ IsGs (NewS w5 W w2.heap.size) W [aliveG] vs ∧ IsSt w2.heap.size W w2.heap.size 1 [] 33 1 (.pointer none))
  case first =>
    go_wp2_with fail
    refine HFD.out.mono ?_
    rintro e w6 ⟨ov, ev, vs, rfl, hb6, hk6, hsl, hgs, rfl, hst6⟩
    have HZ : Hid (∃ vs, Below w2.heap.size w5 w6 ∧ Sl (NewS w5 w6 w2.heap.size) w6 ov 1 vs ∧ IsGs (NewS w5 w6 w2.heap.size) w6 [aliveG] vs ∧ IsSt w2.heap.size w6 w2.heap.size 1 [] 33 1 (.pointer none)) := Lib.hid ⟨vs, hb6, hsl, hgs.1.toGs, by simpa using hst6⟩
    clear hb6 hk6 hsl hgs hst6
    go_wp2_with fail
    go_meet
    case rel => exact ⟨rfl, HZ.out⟩
  case rest =>
    obtain ⟨rfl, vs, hb6, hsl, hgs, hst6⟩ := hcut
    obtain ⟨w6, hw6⟩ : ∃ w6, w6 = wc := ⟨_, rfl⟩
    subst hw6
    obtain ⟨cx, hI, hat⟩ := IsGs.at hgs 0 aliveG rfl
    obtain ⟨i1, D1, m1, r1, D2, m2, r2, D3, m3, r3, rfl⟩ := geom_shape hI
    obtain ⟨b, o, k, hov, hk1, _, _, _, hc⟩ := hsl.open (by intro e; have := hat 0 _ rfl; rw [e] at this; simp at this)
    subst hov
    have x0 := hc _ _ (hat 0 _ rfl)
    have x1 := hc _ _ (hat 1 _ rfl)
    have x2 := hc _ _ (hat 2 _ rfl)
    have x3 := hc _ _ (hat 3 _ rfl)
    simp only [Nat.zero_mul, Nat.zero_add, Nat.add_zero] at x0 x1 x2 x3
    have hb16 : Below w1.heap.size w1 w6 := HB15.out.trans (hb6.mono hs2)
    have hx6 := (hb16.block _ hl1).trans HGM.out.2.1
    have y0 := cell_row (cs := [_, _, _, _]) (j := 0) hx6 rfl
    have y1 := cell_row (cs := [_, _, _, _]) (j := 1) hx6 rfl
    have y2 := cell_row (cs := [_, _, _, _]) (j := 2) hx6 rfl
    have y3 := cell_row (cs := [_, _, _, _]) (j := 3) hx6 rfl
    have HIJ := Lib.hid (And.intro hI (HGM.out.1.keeps (below_keeps hb16 _)))
    have HST := Lib.hid hst6
    have HB6 := Lib.hid (HGM.out.2.2.1.trans (hb16.mono (by omega)))
    have HEQ := Lib.hid (fun W h1 h2 => Equal_same (depth aliveG) aliveG (NewS w5 w6 w2.heap.size) (fun _ => True) [.int .i64 i1, .slice D1 m1 r1, .slice D2 m2 r2, .slice D3 m3 r3] [.int .i64 1, .slice (some ⟨w.heap.size, 0, none⟩) 1 1, .slice none 0 0, .slice none 0 0] W (Nat.le_refl _) h1 h2)
    clear hb6 hsl hgs hst6 hI hat hc hb16 hx6
    have HSK : Hid (∀ W : World, Below w6.heap.size w6 W → W.cell? ⟨b, o, none⟩ = some (.int .i64 i1) ∧ W.cell? ⟨b, o + 1, none⟩ = some (.slice D1 m1 r1) ∧ W.cell? ⟨b, o + 2, none⟩ = some (.slice D2 m2 r2) ∧ W.cell? ⟨b, o + 3, none⟩ = some (.slice D3 m3 r3) ∧
        W.cell? ⟨w.heap.size + 1, 0, none⟩ = some (.int .i64 1) ∧ W.cell? ⟨w.heap.size + 1, 1, none⟩ = some (.slice (some ⟨w.heap.size, 0, none⟩) 1 1) ∧ W.cell? ⟨w.heap.size + 1, 2, none⟩ = some (.slice none 0 0) ∧ W.cell? ⟨w.heap.size + 1, 3, none⟩ = some (.slice none 0 0)) :=
      Lib.hid fun W hW => ⟨(hW.cell (p := ⟨b, o, none⟩) (lt_of_cell x0)).trans x0, (hW.cell (p := ⟨b, o + 1, none⟩) (lt_of_cell x1)).trans x1, (hW.cell (p := ⟨b, o + 2, none⟩) (lt_of_cell x2)).trans x2, (hW.cell (p := ⟨b, o + 3, none⟩) (lt_of_cell x3)).trans x3,
        (hW.cell (p := ⟨w.heap.size + 1, 0, none⟩) (lt_of_cell y0)).trans y0, (hW.cell (p := ⟨w.heap.size + 1, 1, none⟩) (lt_of_cell y1)).trans y1, (hW.cell (p := ⟨w.heap.size + 1, 2, none⟩) (lt_of_cell y2)).trans y2, (hW.cell (p := ⟨w.heap.size + 1, 3, none⟩) (lt_of_cell y3)).trans y3⟩
    have HWT := Lib.hid (fun W h => Waiting_any (B := w2.heap.size) (rb := w2.heap.size) (depth := 1) (begin_ := 33) (count := 1) (l := []) (bp := .pointer none) W h)
    have HCT := Lib.hid (fun W h => Count_any (B := w2.heap.size) (rb := w2.heap.size) (depth := 1) (begin_ := 33) (count := 1) (l := []) (bp := .pointer none) W h)
    generalize aliveG = ag at HIJ HEQ
    clear HGM HFD HO2 H3 H4 H5
    clear x0 x1 x2 x3 y0 y1 y2 y3 hs2 hs3 hs4 hs5
    go_upto_region 7 with (fail)
    go_region_held3 (fun W => W.cell? ⟨b, o, none⟩ = some (.int .i64 i1) ∧ W.cell? ⟨b, o + 1, none⟩ = some (.slice D1 m1 r1) ∧ W.cell? ⟨b, o + 2, none⟩ = some (.slice D2 m2 r2) ∧ W.cell? ⟨b, o + 3, none⟩ = some (.slice D3 m3 r3) ∧
        W.cell? ⟨w.heap.size + 1, 0, none⟩ = some (.int .i64 1) ∧ W.cell? ⟨w.heap.size + 1, 1, none⟩ = some (.slice (some ⟨w.heap.size, 0, none⟩) 1 1) ∧ W.cell? ⟨w.heap.size + 1, 2, none⟩ = some (.slice none 0 0) ∧ W.cell? ⟨w.heap.size + 1, 3, none⟩ = some (.slice none 0 0))
      (first
        | exact HSK.out _ ⟨rfl, rfl, rfl, Nat.le_refl _, fun _ _ => rfl⟩
        | exact HSK.out _ HB67.out)
      (first
        | (go_at_call 17
           refine (HWT.out _ HS7.out).mono ?_
           rintro e w8 ⟨rfl, rfl⟩)
        | (go_at_call 19
           refine (HCT.out _ HS7.out).mono ?_
           rintro e w8 ⟨rfl, rfl⟩)
        | (go_at_call 29
           refine (HEQ.out _ (IsG.keeps (w := w6) (w' := w6.drew) (fun b o _ ho _ => ho) HIJ.out.1) (IsG.keeps (w := w6) (w' := w6.drew) (fun b o _ ho _ => ho) HIJ.out.2)).mono ?_
           rintro e w7 ⟨rfl, hb7⟩
           replace hb7 : Below w6.heap.size w6 w7 := ⟨hb7.os, hb7.tape, hb7.output, hb7.size, hb7.block⟩
           have HS7 := Lib.hid (HST.out.below hb7)
           have HB7 := Lib.hid (HB6.out.trans (hb7.mono HB6.out.size))
           have HB67 := Lib.hid hb7
           clear hb7))
    go_wp2
    go_ret
    exact ⟨rfl, HB7.out⟩
end
end Go.Proofs.YtlffgepnhhnadaaDoor.Pl
