/- plumbref17.Parse and plumbref27.record, walked. plumbref27.record, walked. -/
import Derived.Test.YtlffgepnhhnadaaGreatDoorRfG
namespace Go.Proofs.YtlffgepnhhnadaaGreatDoor.Pl
section
open Go.RowKit

theorem results_cell2 {fn : Func} (h : fn.results = #[.cell 6 27, .tmp 7, .tmp 8]) (tmps : Array Value) (w : World) {g : Nat} {cs : Array Value} {t : TypeId} (hcs : cs.size = 4)
    (h6 : tmps.getD 6 undef = .pointer (some ⟨g, 0, none⟩)) (hg : w.heap[g]? = some (.cells cs t (0, 0))) :
    (results fn tmps).run Tryz.prog w = .ok (.tuple #[.agg cs, tmps.getD 7 undef, tmps.getD 8 undef]) w := by
  have h6' : tmps[6]?.getD undef = .pointer (some ⟨g, 0, none⟩) := by simpa using h6
  have r1 := run_loadVar_row (P := Tryz.prog) w g t 27 cs (0, 0) _ hg Tryz.underlying27 rfl (by rw [Tryz.infoG4, hcs])
  have a1 : (asAddr (.pointer (some ⟨g, 0, none⟩))).run Tryz.prog w = .ok ⟨g, 0, none⟩ w := rfl
  simp only [results, h]
  simp [h6', a1, r1, Sem.run_bind, Result.andThen]
theorem results_cell4 {fn : Func} (h : fn.results = #[.cell 6 27, .tmp 7, .tmp 8, .tmp 9, .tmp 10]) (tmps : Array Value) (w : World) {g : Nat} {cs : Array Value} {t : TypeId} (hcs : cs.size = 4)
    (h6 : tmps.getD 6 undef = .pointer (some ⟨g, 0, none⟩)) (hg : w.heap[g]? = some (.cells cs t (0, 0))) :
    (results fn tmps).run Tryz.prog w = .ok (.tuple #[.agg cs, tmps.getD 7 undef, tmps.getD 8 undef, tmps.getD 9 undef, tmps.getD 10 undef]) w := by
  have h6' : tmps[6]?.getD undef = .pointer (some ⟨g, 0, none⟩) := by simpa using h6
  have r1 := run_loadVar_row (P := Tryz.prog) w g t 27 cs (0, 0) _ hg Tryz.underlying27 rfl (by rw [Tryz.infoG4, hcs])
  have a1 : (asAddr (.pointer (some ⟨g, 0, none⟩))).run Tryz.prog w = .ok ⟨g, 0, none⟩ w := rfl
  simp only [results, h]
  simp [h6', a1, r1, Sem.run_bind, Result.andThen]

def RParseR : Except PErr G → G → Int → Int → Prop
  | .ok x, g, c, a => g = x ∧ c = 0 ∧ a = -1
  | .error z, _, c, a => c = z.2 ∧ a = z.1 ∧ c ≠ 0
/-- what the document's Parse gives -/
def RParseP (w : World) (R : Except PErr G) (cs : List Value) (c a : Int) (w' : World) : Prop := Below w.heap.size w w' ∧ ∃ g, IsG (fun b => w.heap.size ≤ b) w' g cs ∧ RParseR R g c a

set_option maxRecDepth 100000 in
theorem RParse_any {ok : Nat → Prop} {v : Value} {l : List UInt8} (depth : Int) (w : World) (hv : Bytes ok w v l) (hl : l.length ≤ 65536) :
    Calls Tryz.prog 39 #[v, .int .i64 depth, .int .i64 65536] w fun e w' => ∃ cs c a, e = .returned (.tuple #[.agg cs.toArray, .int .i64 c, .int .i64 a]) ∧ RParseP w ((parseR l depth 65536).map (·.1)) cs c a w' := by
  obtain ⟨w1, hw1⟩ : ∃ w1, w1 = w.alloc (.cells #[.int .i64 0, .slice none 0 0, .slice none 0 0, .slice none 0 0] 27) := ⟨_, rfl⟩
  have hb1 : Below w.heap.size w w1 := by subst hw1; exact (Below.refl _ w).alloc (Nat.le_refl _) _
  have hx1 : w1.heap[w.heap.size]? = some (.cells #[.int .i64 0, .slice none 0 0, .slice none 0 0, .slice none 0 0] 27 (0, 0)) := by subst hw1; exact World.alloc_heap_new _ _
  have hlt := lt_of_heap hx1
  have HW := Lib.hid (whole_any depth w1 (hv.keeps (below_keeps hb1 ok)) hl)
  have HX := Lib.hid (And.intro hb1 (And.intro hx1 hlt))
  obtain ⟨R, hR⟩ : ∃ R, (parseR l depth 65536).map (·.1) = R := ⟨_, rfl⟩
  rw [hR] at HW ⊢
  clear hb1 hx1 hv hR
  go_enter Tryz.func39, Tryz.ntmps39
  go_upto_region 1 with (fail)
  rw [← hw1]
  clear hw1
  go_wp2_with fail
  refine HW.out.mono ?_
  rintro e w2 ⟨cs, wb, er, rfl, hb2, k3, k4, hwb, hwl, hnz, g, hig, hR⟩
  obtain ⟨gk, A1, n1, d1, A2, n2, d2, A3, n3, d3, rfl⟩ := geom_shape hig
  obtain ⟨w3, hw3⟩ : ∃ w3, w3 = w2.alloc (.cells #[.int .i64 gk, .slice A1 n1 d1, .slice A2 n2 d2, .slice A3 n3 d3] 27) := ⟨_, rfl⟩
  have hb3 : Below w2.heap.size w2 w3 := by subst hw3; exact (Below.refl _ w2).alloc (Nat.le_refl _) _
  have hx3 : w3.heap[w2.heap.size]? = some (.cells #[.int .i64 gk, .slice A1 n1 d1, .slice A2 n2 d2, .slice A3 n3 d3] 27 (0, 0)) := by subst hw3; exact World.alloc_heap_new _ _
  have hr3 : w3.heap[w.heap.size]? = _ := (hb3.block _ (Nat.lt_of_lt_of_le HX.out.2.2 hb2.size)).trans ((hb2.block _ HX.out.2.2).trans HX.out.2.1)
  have c3 := (hb3.cell (p := ⟨wb, 3, none⟩) hwl).trans k3
  have c4 := (hb3.cell (p := ⟨wb, 4, none⟩) hwl).trans k4
  have z0 := cell_row (cs := [_, _, _, _]) (j := 0) hr3 rfl
  have z1 := cell_row (cs := [_, _, _, _]) (j := 1) hr3 rfl
  have z2 := cell_row (cs := [_, _, _, _]) (j := 2) hr3 rfl
  have z3 := cell_row (cs := [_, _, _, _]) (j := 3) hr3 rfl
  have f0 := frozen_row (cs := [_, _, _, _]) hr3 0
  have f1 := frozen_row (cs := [_, _, _, _]) hr3 1
  have f2 := frozen_row (cs := [_, _, _, _]) hr3 2
  have f3 := frozen_row (cs := [_, _, _, _]) hr3 3
  have hbw : Below w.heap.size w w3 := HX.out.1.trans ((hb2.trans (hb3.mono hb2.size)).mono (Nat.le_of_lt HX.out.2.2))
  have H3 := Lib.hid (And.intro hbw (And.intro hr3 (And.intro (hig.keeps (below_keeps hb3 _)) (And.intro hnz hR))))
  have hwne : wb ≠ w.heap.size := by have := HX.out.2.2; omega
  cases er with
  | some z =>
    have hnz' := hnz z rfl
    simp only [erC, erP] at c3 c4
    have hb' : (z.2 != 0) = true := by simpa using hnz'
    clear hig hr3 hbw hb2 hb3 hx3 k3 k4 hR hnz
    obtain ⟨za, zc⟩ := z
    simp only [] at c3 c4 hb' hnz'
    go_upto_region 2 with (fail)
    rw [← hw3]
    clear hw3
    go_wp2
    go_region
    go_wp2
    obtain ⟨q1, q2, q3, q4⟩ := four_set H3.out.2.1 (.int .i64 0) (.slice none 0 0) (.slice none 0 0) (.slice none 0 0) rfl
    have hbe := below_drewN (q4 _ _ (Nat.le_refl _) H3.out.1) 1
    refine bodyPost_ret (results_cell2 (g := w.heap.size) (cs := #[.int .i64 0, .slice none 0 0, .slice none 0 0, .slice none 0 0]) Tryz.results39 _ _ rfl rfl (by exact q1)) rfl ?_
    refine ⟨[_, _, _, _], _, _, rfl, ⟨hbe.os, hbe.tape, hbe.output, hbe.size, hbe.block⟩, .mk 0 [] [] [], zeroG _ _, ?_⟩
    have hR := H3.out.2.2.2.2
    cases R with
    | ok x => cases hR.2
    | error y =>
      obtain ⟨h1, _⟩ := hR
      cases h1
      exact ⟨rfl, rfl, hnz'⟩
  | none =>
    simp only [erC, erP] at c3 c4
    have d0 := cell_row (cs := [_, _, _, _]) (j := 0) hx3 rfl
    have d1' := cell_row (cs := [_, _, _, _]) (j := 1) hx3 rfl
    have d2' := cell_row (cs := [_, _, _, _]) (j := 2) hx3 rfl
    have d3' := cell_row (cs := [_, _, _, _]) (j := 3) hx3 rfl
    clear hig hr3 hbw hb2 hb3 hx3 k3 k4 hR hnz
    go_upto_region 2 with (fail)
    rw [← hw3]
    clear hw3
    go_wp2
    obtain ⟨q1, q2, q3, q4⟩ := four_set H3.out.2.1 (.int .i64 gk) (.slice A1 n1 d1) (.slice A2 n2 d2) (.slice A3 n3 d3) rfl
    refine bodyPost_ret (results_cell2 (g := w.heap.size) (cs := #[.int .i64 gk, .slice A1 n1 d1, .slice A2 n2 d2, .slice A3 n3 d3]) Tryz.results39 _ _ rfl rfl q1) rfl ?_
    refine ⟨[_, _, _, _], _, _, rfl, q4 _ _ (Nat.le_refl _) H3.out.1, g, (H3.out.2.2.1.keeps fun b o hb ho _ => (q2 b (by have := HX.out.2.2; omega)).trans ho).mono fun b _ hb => by have := HX.out.2.2; omega, ?_⟩
    have hR := H3.out.2.2.2.2
    cases R with
    | ok x => exact ⟨hR.1, rfl, rfl⟩
    | error z => cases hR.1
end
section
open Go.RowKit

theorem wd_drop (l : List UInt8) (p a n : Nat) (lt : Bool) : wd (l.drop p) a n lt = wd l (p + a) n lt := by simp [wd, List.drop_drop]
/-- what the document's record gives, its cells in sight -/
def RRecM (w : World) (p : Nat) (w' : World) (cs : List Value) : Rec → Int → Bool → Int → Int → Prop
  | .wait, nx, wt, c, _ => nx = (p : Nat) ∧ wt = true ∧ c = 0
  | .bad a0 c0, _, wt, c, a => wt = false ∧ c = c0 ∧ c0 ≠ 0 ∧ a = (p : Int) + a0
  | .got g m, nx, wt, c, _ => IsG (fun b => w.heap.size ≤ b) w' g cs ∧ nx = ((p + m : Nat) : Int) ∧ wt = false ∧ c = 0
def RRecPost (w : World) (r : Rec) (p : Nat) (e : Ending) (w' : World) : Prop := ∃ ki A1 n1 c1 A2 n2 c2 A3 n3 c3 nx wt c a, e = .returned (.tuple #[.agg #[.int .i64 ki, .slice A1 n1 c1, .slice A2 n2 c2, .slice A3 n3 c3], .int .i64 nx, .bool wt, .int .i64 c, .int .i64 a]) ∧ Below w.heap.size w w' ∧
  RRecM w p w' [.int .i64 ki, .slice A1 n1 c1, .slice A2 n2 c2, .slice A3 n3 c3] r nx wt c a

theorem mark_four {l : List UInt8} {p : Nat} (h : p + 4 ≤ l.length) : (l.drop p).take 4 = [l[p]'(by omega), l[p + 1]'(by omega), l[p + 2]'(by omega), l[p + 3]'(by omega)] := by
  rw [List.drop_eq_getElem_cons (by omega : p < l.length), List.take_succ_cons, List.drop_eq_getElem_cons (by omega : p + 1 < l.length), List.take_succ_cons, List.drop_eq_getElem_cons (by omega : p + 1 + 1 < l.length), List.take_succ_cons, List.drop_eq_getElem_cons (by omega : p + 1 + 1 + 1 < l.length), List.take_succ_cons, List.take_zero]
theorem mark_iff {l : List UInt8} {p : Nat} (h : p + 4 ≤ l.length) : (l.drop p).take 4 = markB ↔ (l[p]'(by omega)).toNat = 80 ∧ (l[p + 1]'(by omega)).toNat = 76 ∧ (l[p + 2]'(by omega)).toNat = 77 ∧ (l[p + 3]'(by omega)).toNat = 49 := by
  rw [mark_four h]
  unfold markB
  simp only [List.cons.injEq, and_true]
  constructor
  · rintro ⟨h1, h2, h3, h4⟩; rw [h1, h2, h3, h4]; exact ⟨rfl, rfl, rfl, rfl⟩
  · rintro ⟨h1, h2, h3, h4⟩; exact ⟨UInt8.toNat_inj.1 h1, UInt8.toNat_inj.1 h2, UInt8.toNat_inj.1 h3, UInt8.toNat_inj.1 h4⟩

set_option maxRecDepth 100000 in
set_option maxHeartbeats 2000000 in
theorem rrec_any {ok : Nat → Prop} {v : Value} {l : List UInt8} (p : Nat) (depth : Int) (w : World) (hv : Bytes ok w v l) (hp : p ≤ l.length) (hl : l.length ≤ 1099511627776) :
    Calls Tryz.prog 18 #[v, .int .i64 p, .int .i64 depth] w (RRecPost w (recR (l.drop p) depth) p) := by
  obtain ⟨w1, hw1⟩ : ∃ w1, w1 = w.alloc (.cells #[.int .i64 0, .slice none 0 0, .slice none 0 0, .slice none 0 0] 27) := ⟨_, rfl⟩
  have hb1 : Below w.heap.size w w1 := by subst hw1; exact (Below.refl _ w).alloc (Nat.le_refl _) _
  have hx1 : w1.heap[w.heap.size]? = some (.cells #[.int .i64 0, .slice none 0 0, .slice none 0 0, .slice none 0 0] 27 (0, 0)) := by subst hw1; exact World.alloc_heap_new _ _
  have hlt := lt_of_heap hx1
  have hv1 : Bytes ok w1 v l := hv.keeps (below_keeps hb1 ok)
  obtain ⟨A, c, rfl, hc, hl2, hrow⟩ := hv1
  have g0 := cell_row (cs := [_, _, _, _]) (j := 0) hx1 rfl
  have g1 := cell_row (cs := [_, _, _, _]) (j := 1) hx1 rfl
  have g2 := cell_row (cs := [_, _, _, _]) (j := 2) hx1 rfl
  have g3 := cell_row (cs := [_, _, _, _]) (j := 3) hx1 rfl
  have f0 := frozen_row (cs := [_, _, _, _]) hx1 0
  have f1 := frozen_row (cs := [_, _, _, _]) hx1 1
  have f2 := frozen_row (cs := [_, _, _, _]) hx1 2
  have f3 := frozen_row (cs := [_, _, _, _]) hx1 3
  have HX := Lib.hid (And.intro hb1 (And.intro hx1 hlt))
  have HV : Hid (Bytes ok w1 (.slice A l.length c) l) := Lib.hid ⟨_, _, rfl, hc, hl2, hrow⟩
  have hld : (l.drop p).length = l.length - p := List.length_drop
  -- the end of a way that answers no tree
  have HZ : Hid (∀ (V : World) (r : Rec) (nx : Int) (wt : Bool) (cc a : Int), Below w1.heap.size w1 V → (∀ W cs, RRecM w p W cs r nx wt cc a) → ∀ W, W = (((V.setCell ⟨w.heap.size, 0, none⟩ (.int .i64 0)).setCell ⟨w.heap.size, 1, none⟩ (.slice none 0 0)).setCell ⟨w.heap.size, 2, none⟩ (.slice none 0 0)).setCell ⟨w.heap.size, 3, none⟩ (.slice none 0 0) →
      W.heap[w.heap.size]? = some (.cells #[.int .i64 0, .slice none 0 0, .slice none 0 0, .slice none 0 0] 27 (0, 0)) ∧ RRecPost w r p (.returned (.tuple #[.agg #[.int .i64 0, .slice none 0 0, .slice none 0 0, .slice none 0 0], .int .i64 nx, .bool wt, .int .i64 cc, .int .i64 a])) W) := Lib.hid fun V r nx wt cc a hV hr W hW => by
    obtain ⟨q1, q2, q3, q4⟩ := four_set ((hV.block _ HX.out.2.2).trans HX.out.2.1) _ _ _ _ hW
    exact ⟨q1, _, _, _, _, _, _, _, _, _, _, _, _, _, _, rfl, q4 _ _ (Nat.le_refl _) (HX.out.1.trans (hV.mono (Nat.le_of_lt HX.out.2.2))), hr _ _⟩
  clear hb1 hx1 hv
  by_cases h8 : l.length - p < 8
  · have hR : recR (l.drop p) depth = .wait := by unfold recR; rw [hld, if_pos h8]
    have HZ := Lib.hid (HZ.out w1 .wait (p : Int) true 0 (-1) (Below.refl _ _) (fun _ _ => ⟨rfl, rfl, rfl⟩))
    rw [hR]
    have h8i : (l.length : Int) - p < 8 := by omega
    clear hrow
    go_enter Tryz.func18, Tryz.ntmps18
    go_upto_region 1 with (fail)
    rw [← hw1]
    clear hw1
    go_wp2
    obtain ⟨q1, q2⟩ := HZ.out _ rfl
    exact bodyPost_ret (results_cell4 (g := w.heap.size) (cs := #[.int .i64 0, .slice none 0 0, .slice none 0 0, .slice none 0 0]) Tryz.results18 _ _ rfl rfl q1) rfl q2
  obtain ⟨b, o, rfl, hob, hbl, hcell⟩ := hrow.at (by intro e; have h := congrArg List.length e; rw [List.length_map] at h; simp only [List.length_nil] at h; omega)
  have h8i : ¬ (l.length : Int) - p < 8 := by omega
  have hc0 := hcell p (bv l[p]) (by rw [List.getElem?_map, List.getElem?_eq_getElem (by omega)]; rfl)
  have hc1 := hcell (p + 1) (bv l[p + 1]) (by rw [List.getElem?_map, List.getElem?_eq_getElem (by omega)]; rfl)
  have hc2 := hcell (p + 2) (bv l[p + 2]) (by rw [List.getElem?_map, List.getElem?_eq_getElem (by omega)]; rfl)
  have hc3 := hcell (p + 3) (bv l[p + 3]) (by rw [List.getElem?_map, List.getElem?_eq_getElem (by omega)]; rfl)
  have hmk := mark_iff (l := l) (p := p) (by omega)
  simp only [bv] at hc0 hc1 hc2 hc3
  have HR0 : Hid (¬ (l.drop p).take 4 = markB → recR (l.drop p) depth = .bad 0 270) := Lib.hid fun h => by unfold recR; rw [hld, if_neg h8, if_pos h]
  have HRT : Hid ((l.drop p).take 4 = markB → recR (l.drop p) depth = if 65536 < wd l (p + 4) 4 false then .bad 4 274 else
        if l.length - p < 8 + wd l (p + 4) 4 false + 4 then .wait else
        if wd l (p + (8 + wd l (p + 4) 4 false)) 4 false ≠ sumR ((l.drop p).take (8 + wd l (p + 4) 4 false)) then .bad (8 + wd l (p + 4) 4 false : Nat) 271 else
        match parseR ((l.drop (p + 8)).take (wd l (p + 4) 4 false)) depth 65536 with
        | .error e => .bad (IntKind.i64.wrap (8 + e.1)) e.2
        | .ok x => .got x.1 (8 + wd l (p + 4) 4 false + 4)) := Lib.hid fun h => by
    unfold recR
    rw [hld, if_neg h8, if_neg (by simpa using h)]
    simp only [wd_drop, List.drop_drop]
    rfl
  have HBAD : Hid (∀ W, W = _ → _) := Lib.hid (HZ.out w1 (.bad 0 270) (p : Int) false 270 (p : Int) (Below.refl _ _) (fun _ _ => ⟨rfl, rfl, by decide, by omega⟩))
  have HC := Lib.hid hcell
  generalize hx0 : (l[p]).toNat = x0 at hc0 hmk
  generalize hx1 : (l[p + 1]).toNat = x1 at hc1 hmk
  generalize hx2 : (l[p + 2]).toNat = x2 at hc2 hmk
  generalize hx3 : (l[p + 3]).toNat = x3 at hc3 hmk
  have HMK := Lib.hid hmk
  clear hcell hrow hx0 hx1 hx2 hx3 hmk
  have hlp8 : p + 8 ≤ l.length := by omega
  go_enter Tryz.func18, Tryz.ntmps18
  go_upto_region 1 with (fail)
  rw [← hw1]
  clear hw1
  by_cases m0 : x0 = 80
  case neg =>
    have hR : recR (l.drop p) depth = .bad 0 270 := HR0.out fun h => m0 (HMK.out.1 h).1
    rw [hR]
    have hb : ((x0 : Int) != 80) = true := by simp; omega
    go_wp2
    obtain ⟨q1, q2⟩ := HBAD.out _ rfl
    exact bodyPost_ret (results_cell4 (g := w.heap.size) (cs := #[.int .i64 0, .slice none 0 0, .slice none 0 0, .slice none 0 0]) Tryz.results18 _ _ rfl rfl q1) rfl q2
  by_cases m1 : x1 = 76
  case neg =>
    have hR : recR (l.drop p) depth = .bad 0 270 := HR0.out fun h => m1 (HMK.out.1 h).2.1
    rw [hR]
    subst m0
    have hb : ((x1 : Int) != 76) = true := by simp; omega
    go_wp2
    obtain ⟨q1, q2⟩ := HBAD.out _ rfl
    exact bodyPost_ret (results_cell4 (g := w.heap.size) (cs := #[.int .i64 0, .slice none 0 0, .slice none 0 0, .slice none 0 0]) Tryz.results18 _ _ rfl rfl q1) rfl q2
  by_cases m2 : x2 = 77
  case neg =>
    have hR : recR (l.drop p) depth = .bad 0 270 := HR0.out fun h => m2 (HMK.out.1 h).2.2.1
    rw [hR]
    subst m0 m1
    have hb : ((x2 : Int) != 77) = true := by simp; omega
    go_wp2
    obtain ⟨q1, q2⟩ := HBAD.out _ rfl
    exact bodyPost_ret (results_cell4 (g := w.heap.size) (cs := #[.int .i64 0, .slice none 0 0, .slice none 0 0, .slice none 0 0]) Tryz.results18 _ _ rfl rfl q1) rfl q2
  by_cases m3 : x3 = 49
  case neg =>
    have hR : recR (l.drop p) depth = .bad 0 270 := HR0.out fun h => m3 (HMK.out.1 h).2.2.2
    rw [hR]
    subst m0 m1 m2
    have hb : ((x3 : Int) != 49) = true := by simp; omega
    go_wp2
    obtain ⟨q1, q2⟩ := HBAD.out _ rfl
    exact bodyPost_ret (results_cell4 (g := w.heap.size) (cs := #[.int .i64 0, .slice none 0 0, .slice none 0 0, .slice none 0 0]) Tryz.results18 _ _ rfl rfl q1) rfl q2
  have HRT := Lib.hid (HRT.out (HMK.out.2 ⟨m0, m1, m2, m3⟩))
  subst m0 m1 m2 m3
  have HW := Lib.hid (RWord_any (p + 4) w1 HV.out (by omega))
  have hwl := wd_lt l (p + 4) 4 false
  have HWE : Hid (∀ x : Nat, p + (8 + x) + 4 ≤ l.length → Calls Tryz.prog 38 #[.slice (some ⟨b, o, none⟩) l.length c, .int .i64 ((p : Int) + 8 + x)] w1 fun e w' => e = .returned (.int .i64 (wd l (p + (8 + x)) 4 false : Nat)) ∧ w1 = w') := Lib.hid fun x h => by
    rw [show (p : Int) + 8 + x = ((p + (8 + x) : Nat) : Int) by omega]; exact RWord_any (p + (8 + x)) w1 HV.out h
  have HSG : Hid (∀ q n m : Nat, q + n ≤ l.length → m = n → Bytes ok w1 (.slice (some ⟨b, o + q, none⟩) m (c - q)) ((l.drop q).take n)) := Lib.hid fun q n m h1 h2 => by
    have h0 : Bytes ok w1 (.slice (some ⟨b, o + q, none⟩) (l.drop q).length (c - q)) (l.drop q) := by rw [List.length_drop]; exact HV.out.drop q (by omega)
    have h := h0.take n (by rw [List.length_drop]; omega)
    subst h2; exact h
  clear HBAD
  generalize wd l (p + 4) 4 false = x at HW hwl HRT
  have hwa4 : IntKind.i64.wrap ((p : Int) + 4) = (p : Int) + 4 := by rw [IntKind.wrap_i64]; omega
  go_wp2_with fail
  refine HW.out.mono ?_
  rintro e w' ⟨rfl, rfl⟩
  clear hc0 hc1 hc2 hc3 HW
  by_cases hbig : 65536 < x
  · have hbi : (65536 : Int) < (x : Int) := by omega
    have hR : recR (l.drop p) depth = .bad 4 274 := by rw [HRT.out, if_pos hbig]
    have HBAD := Lib.hid (HZ.out w1 (.bad 4 274) (p : Int) false 274 ((p : Int) + 4) (Below.refl _ _) (fun _ _ => ⟨rfl, rfl, by decide, rfl⟩))
    rw [← hR] at HBAD
    clear hR
    go_wp2
    obtain ⟨q1, q2⟩ := HBAD.out _ rfl
    exact bodyPost_ret (results_cell4 (g := w.heap.size) (cs := #[.int .i64 0, .slice none 0 0, .slice none 0 0, .slice none 0 0]) Tryz.results18 _ _ rfl rfl q1) rfl q2
  have hbi : ¬ (65536 : Int) < (x : Int) := by omega
  by_cases hwt : l.length - p < 8 + x + 4
  · have hwi : (l.length : Int) - p < (x : Int) + 12 := by omega
    have hR : recR (l.drop p) depth = .wait := by rw [HRT.out, if_neg hbig, if_pos hwt]
    have HBAD := Lib.hid (HZ.out w1 .wait (p : Int) true 0 (-1) (Below.refl _ _) (fun _ _ => ⟨rfl, rfl, rfl⟩))
    rw [← hR] at HBAD
    clear hR
    go_wp2
    obtain ⟨q1, q2⟩ := HBAD.out _ rfl
    exact bodyPost_ret (results_cell4 (g := w.heap.size) (cs := #[.int .i64 0, .slice none 0 0, .slice none 0 0, .slice none 0 0]) Tryz.results18 _ _ rfl rfl q1) rfl q2
  have hwi : ¬ (l.length : Int) - p < (x : Int) + 12 := by omega
  have hcp : ¬ c = p := by omega
  have HS := Lib.hid (RSum_any w1 (HSG.out p (8 + x) (p + 8 + x - p) (by omega) (by omega)))
  have hsl := sumR_lt ((l.drop p).take (8 + x))
  have HWE := Lib.hid (HWE.out x (by omega))
  have hql := wd_lt l (p + (8 + x)) 4 false
  rw [if_neg hbig, if_neg hwt] at HRT
  generalize sumR ((l.drop p).take (8 + x)) = s at HS hsl HRT
  generalize wd l (p + (8 + x)) 4 false = q at HWE hql HRT
  have hws : IntKind.i64.wrap (s : Int) = s := by rw [IntKind.wrap_i64]; omega
  have hxi : (x : Int) ≤ 65536 := by omega
  go_wp2_with fail
  refine HS.out.mono ?_
  rintro e w' ⟨rfl, rfl⟩
  go_wp2_with fail
  refine HWE.out.mono ?_
  rintro e w' ⟨rfl, rfl⟩
  by_cases hsq : q = s
  case neg =>
    have hb : ((s : Int) != (q : Int)) = true := by simp; omega
    have hR : recR (l.drop p) depth = .bad (8 + x : Nat) 271 := by rw [HRT.out, if_pos (by simpa using hsq)]
    have HBAD := Lib.hid (HZ.out w1 (.bad (8 + x : Nat) 271) (p : Int) false 271 ((p : Int) + 8 + x) (Below.refl _ _) (fun _ _ => ⟨rfl, rfl, by decide, by omega⟩))
    rw [← hR] at HBAD
    clear hR
    go_wp2
    obtain ⟨q1, q2⟩ := HBAD.out _ rfl
    exact bodyPost_ret (results_cell4 (g := w.heap.size) (cs := #[.int .i64 0, .slice none 0 0, .slice none 0 0, .slice none 0 0]) Tryz.results18 _ _ rfl rfl q1) rfl q2
  subst hsq
  rw [if_neg (by simp)] at HRT
  have hb : ((q : Int) != (q : Int)) = false := by simp
  have hcp2 : ¬ c = p + 8 := by omega
  have HPA := Lib.hid (RParse_any depth w1 (HSG.out (p + 8) x x (by omega) rfl) (by rw [List.length_take]; omega))
  have hpl := fun e => parse_place (l := (l.drop (p + 8)).take x) (d := depth) (e := e) (by rw [List.length_take]; omega)
  have hlx : ((l.drop (p + 8)).take x).length ≤ x := by rw [List.length_take]; omega
  generalize (l.drop (p + 8)).take x = pl at HPA hpl hlx HRT
  obtain ⟨R, hR⟩ : ∃ R, parseR pl depth 65536 = R := ⟨_, rfl⟩
  rw [hR] at HPA hpl HRT
  clear hR HS HWE HSG
  have HPL := Lib.hid hpl
  clear hpl
  go_wp2_with fail
  refine HPA.out.mono ?_
  rintro e w2 ⟨cs, cc, aa, rfl, hb2, g, hig, hpr⟩
  obtain ⟨gk, A1, n1, d1, A2, n2, d2, A3, n3, d3, rfl⟩ := geom_shape hig
  obtain ⟨w3, hw3⟩ : ∃ w3, w3 = w2.alloc (.cells #[.int .i64 gk, .slice A1 n1 d1, .slice A2 n2 d2, .slice A3 n3 d3] 27) := ⟨_, rfl⟩
  have hb3 : Below w2.heap.size w2 w3 := by subst hw3; exact (Below.refl _ w2).alloc (Nat.le_refl _) _
  have hx3 : w3.heap[w2.heap.size]? = some (.cells #[.int .i64 gk, .slice A1 n1 d1, .slice A2 n2 d2, .slice A3 n3 d3] 27 (0, 0)) := by subst hw3; exact World.alloc_heap_new _ _
  have hb13 : Below w1.heap.size w1 w3 := hb2.trans (hb3.mono hb2.size)
  have hr3 := (hb13.block _ HX.out.2.2).trans HX.out.2.1
  have g0 := cell_row (cs := [_, _, _, _]) (j := 0) hr3 rfl
  have g1 := cell_row (cs := [_, _, _, _]) (j := 1) hr3 rfl
  have g2 := cell_row (cs := [_, _, _, _]) (j := 2) hr3 rfl
  have g3 := cell_row (cs := [_, _, _, _]) (j := 3) hr3 rfl
  have f0 := frozen_row (cs := [_, _, _, _]) hr3 0
  have f1 := frozen_row (cs := [_, _, _, _]) hr3 1
  have f2 := frozen_row (cs := [_, _, _, _]) hr3 2
  have f3 := frozen_row (cs := [_, _, _, _]) hr3 3
  have H3 := Lib.hid (And.intro hb13 (And.intro hr3 (hig.keeps (below_keeps hb3 _))))
  cases R with
  | error z =>
    obtain ⟨rfl, rfl, hnz⟩ : cc = z.2 ∧ aa = z.1 ∧ cc ≠ 0 := hpr
    obtain ⟨za, zc⟩ := z
    simp only [] at HRT hnz ⊢
    have hpp := HPL.out _ rfl
    simp only [] at hpp
    have hR : recR (l.drop p) depth = .bad (8 + za) zc := by rw [HRT.out, IntKind.wrap_i64]; congr 1; omega
    have HBAD := Lib.hid (HZ.out w3 (.bad (8 + za) zc) (p : Int) false zc ((p : Int) + 8 + za) hb13 (fun _ _ => ⟨rfl, rfl, hnz, by omega⟩))
    rw [← hR] at HBAD
    have hzb : (zc != 0) = true := by simpa using hnz
    clear hR hig hb2 hb3 hx3 hb13 hr3
    go_upto_region 13 with (fail)
    rw [← hw3]
    clear hw3
    go_wp2
    obtain ⟨q1, q2⟩ := HBAD.out _ rfl
    exact bodyPost_ret (results_cell4 (g := w.heap.size) (cs := #[.int .i64 0, .slice none 0 0, .slice none 0 0, .slice none 0 0]) Tryz.results18 _ _ rfl rfl q1) rfl q2
  | ok y =>
    obtain ⟨rfl, rfl, rfl⟩ : g = y.1 ∧ cc = 0 ∧ aa = -1 := hpr
    have hR : recR (l.drop p) depth = .got y.1 (8 + x + 4) := HRT.out
    have HRR := Lib.hid hR
    have d0 := cell_row (cs := [_, _, _, _]) (j := 0) hx3 rfl
    have d1' := cell_row (cs := [_, _, _, _]) (j := 1) hx3 rfl
    have d2' := cell_row (cs := [_, _, _, _]) (j := 2) hx3 rfl
    have d3' := cell_row (cs := [_, _, _, _]) (j := 3) hx3 rfl
    clear hR hig hb2 hb3 hx3 hb13 hr3
    go_upto_region 13 with (fail)
    rw [← hw3]
    clear hw3
    go_wp2
    obtain ⟨q1, q2, q3, q4⟩ := four_set H3.out.2.1 (.int .i64 gk) (.slice A1 n1 d1) (.slice A2 n2 d2) (.slice A3 n3 d3) rfl
    refine bodyPost_ret (results_cell4 (g := w.heap.size) (cs := #[.int .i64 gk, .slice A1 n1 d1, .slice A2 n2 d2, .slice A3 n3 d3]) Tryz.results18 _ _ rfl rfl q1) rfl ?_
    rw [HRR.out]
    exact ⟨_, _, _, _, _, _, _, _, _, _, _, _, _, _, rfl, q4 _ _ (Nat.le_refl _) (HX.out.1.trans (H3.out.1.mono (Nat.le_of_lt HX.out.2.2))), (H3.out.2.2.keeps fun b o hb ho _ => (q2 b (by have := HX.out.2.2; omega)).trans ho).mono fun b _ hb => by have := HX.out.2.2; omega, by omega, rfl, rfl⟩
end
end Go.Proofs.YtlffgepnhhnadaaGreatDoor.Pl
