/- plumblaw27's Shape.made, walked. -/
import Derived.Test.YtlffgepnhhnadaaDoorOwn
import Derived.Deep.DeepMust
namespace Go.Proofs.YtlffgepnhhnadaaDoor.Pl
open Go.RowKit

/-- what lies behind the first three statements of made -/
structure MadeS (w W : World) (s : Shp) : Prop where
  below : Below w.heap.size w W
  b0 : W.heap[w.heap.size]? = some (.cells #[.int .i64 s.k, .int .i64 s.dp, .int .i64 s.n, .int .u64 s.x, .int .u64 s.y, .bool s.lt] 54 (0, 0))
  b1 : W.heap[w.heap.size + 1]? = some (.cells #[.int .i64 0, .slice none 0 0, .slice none 0 0, .slice none 0 0] 51 (0, 0))
  b2 : W.heap[w.heap.size + 2]? = some (.cells #[.int .u64 s.pt.1, .int .u64 s.pt.2] 71 (0, 0))
  b3 : W.heap[w.heap.size + 3]? = some (.cells #[.int .u64 s.pt.1, .int .u64 s.pt.2] 71 (0, 0))
  b4 : W.heap[w.heap.size + 4]? = some (.cells #[.int .i64 1, .slice (some ⟨w.heap.size + 3, 0, none⟩) 1 1, .slice none 0 0, .slice none 0 0] 51 (0, 0))
  size : W.heap.size = w.heap.size + 5
theorem MadeS.point {w W : World} {s : Shp} (h : MadeS w W s) (hs : s.ok) : IsG (fun b => b = w.heap.size + 3) W s.point [.int .i64 1, .slice (some ⟨w.heap.size + 3, 0, none⟩) 1 1, .slice none 0 0, .slice none 0 0] := by
  simp only [Shp.point, IsG]
  refine ⟨_, _, _, rfl, ⟨?_, _, _, rfl, Nat.le_refl _, by simp, .inr ⟨_, _, rfl, rfl, fun i c hc => ?_⟩⟩, ⟨[], Sl.nil _ _, .nil⟩, [], Sl.nil _ _, rfl⟩
  · intro p hp
    simp at hp; subst hp
    exact ⟨finB_lt hs.1, finB_lt hs.2⟩
  · rw [Nat.zero_add]
    exact cell_row h.b3 (by simpa [ptCells] using hc)
/-- two cells written -/
theorem two_set {gb : Nat} {V W : World} {z0 z1 : Value} {t1 : TypeId} (hg : V.heap[gb]? = some (.cells #[z0, z1] t1 (0, 0))) (x0 x1 : Value)
    (hW : W = (V.setCell ⟨gb, 0, none⟩ x0).setCell ⟨gb, 1, none⟩ x1) :
    W.heap[gb]? = some (.cells #[x0, x1] t1 (0, 0)) ∧ (∀ b, b ≠ gb → W.heap[b]? = V.heap[b]?) ∧ W.heap.size = V.heap.size := by
  have s0 := heap_store (cs := [z0, z1]) hg (j := 0) x0
  have s1 := heap_store (cs := [x0, z1]) (by simpa using s0) (j := 1) x1
  refine ⟨by rw [hW]; simpa using s1, fun b h1 => ?_, by rw [hW]; simp [World.setCell]⟩
  rw [hW, Below.heap_setCell _ _ _ b h1, Below.heap_setCell _ _ _ b h1]

theorem pairs_length (p : Pt) : ∀ n, (pairs p n).length = 2 * n
  | 0 => rfl
  | n + 1 => by simp [pairs, pairs_length p n]; omega
theorem pairs_ok {p : Pt} (h1 : p.1 < 18446744073709551616) (h2 : p.2 < 18446744073709551616) : ∀ n, ∀ q ∈ pairs p n, PtOk q
  | 0 => by simp [pairs]
  | n + 1 => by
    intro q hq
    simp only [pairs, List.mem_append, List.mem_cons, List.not_mem_nil, or_false] at hq
    rcases hq with hq | rfl | rfl
    · exact pairs_ok h1 h2 n q hq
    · exact ⟨h1, h2⟩
    · exact ⟨h2, h1⟩
/-- the second of four cells written -/
theorem two_lift {w : World} {g : Nat} {a b c d : Value} {t : TypeId} (h : w.heap[g]? = some (.cells #[a, b, c, d] t (0, 0))) (u : Value) :
    (w.setCell ⟨g, 1, none⟩ u).heap[g]? = some (.cells #[a, u, c, d] t (0, 0)) ∧ ∀ k, k ≠ g → (w.setCell ⟨g, 1, none⟩ u).heap[k]? = w.heap[k]? := by
  have s0 := heap_store (cs := [a, b, c, d]) h (j := 1) u
  exact ⟨by simpa using s0, fun k hk => Below.heap_setCell _ _ _ k hk⟩
/-- the fourth of four cells written -/
theorem four_lift {w : World} {g : Nat} {a b c d : Value} {t : TypeId} (h : w.heap[g]? = some (.cells #[a, b, c, d] t (0, 0))) (u : Value) :
    (w.setCell ⟨g, 3, none⟩ u).heap[g]? = some (.cells #[a, b, c, u] t (0, 0)) ∧ ∀ k, k ≠ g → (w.setCell ⟨g, 3, none⟩ u).heap[k]? = w.heap[k]? := by
  have s0 := heap_store (cs := [a, b, c, d]) h (j := 3) u
  exact ⟨by simpa using s0, fun k hk => Below.heap_setCell _ _ _ k hk⟩
def repC (c : List Value) : Nat → List Value
  | 0 => []
  | n + 1 => repC c n ++ c
theorem isGs_rep {ok : Nat → Prop} {w : World} {g : G} {c : List Value} (h : IsG ok w g c) : ∀ n, IsGs ok w (List.replicate n g) (repC c n)
  | 0 => by simp [IsGs, repC]
  | n + 1 => by rw [List.replicate_succ']; exact (isGs_rep h n).append (IsGs.one h)
theorem alloc_size (w : World) (o : Obj) : (w.alloc o).heap.size = w.heap.size + 1 := Array.size_push _
theorem alloc_old (w : World) (o : Obj) {b : Nat} (h : b < w.heap.size) : (w.alloc o).heap[b]? = w.heap[b]? := ((Below.refl w.heap.size w).alloc (Nat.le_refl _) o).block b h

set_option maxRecDepth 100000 in
set_option maxHeartbeats 2000000 in
theorem made_any (s : Shp) (w : World) (hs : s.ok) :
    Calls Tryd.prog 38 #[.agg s.cells.toArray] w fun e w' => ∃ cs, e = .returned (.agg cs.toArray) ∧ IsG (fun b => w.heap.size ≤ b) w' s.made cs ∧ Below w.heap.size w w' := by
  have HX := Lib.hid (fun W => fin_any s.x W hs.1)
  have HY := Lib.hid (fun W => fin_any s.y W hs.2)
  simp only [Shp.cells]
  obtain ⟨wa, hwa⟩ : ∃ wa, wa = (w.alloc (.cells #[.int .i64 s.k, .int .i64 s.dp, .int .i64 s.n, .int .u64 s.x, .int .u64 s.y, .bool s.lt] 54)).alloc (.cells #[.int .i64 0, .slice none 0 0, .slice none 0 0, .slice none 0 0] 51) := ⟨_, rfl⟩
  have hba : Below w.heap.size w wa := by
    rw [hwa]
    have h1 := (Below.refl w.heap.size w).alloc (Nat.le_refl _) (.cells #[.int .i64 s.k, .int .i64 s.dp, .int .i64 s.n, .int .u64 s.x, .int .u64 s.y, .bool s.lt] 54)
    exact h1.alloc h1.size _
  have hsa : wa.heap.size = w.heap.size + 2 := by rw [hwa, alloc_size, alloc_size]
  have ha0 : wa.heap[w.heap.size]? = some (.cells #[.int .i64 s.k, .int .i64 s.dp, .int .i64 s.n, .int .u64 s.x, .int .u64 s.y, .bool s.lt] 54 (0, 0)) := by
    rw [hwa, alloc_old _ _ (by rw [alloc_size]; omega)]; exact World.alloc_heap_new _ _
  have ha1 : wa.heap[w.heap.size + 1]? = some (.cells #[.int .i64 0, .slice none 0 0, .slice none 0 0, .slice none 0 0] 51 (0, 0)) := by
    rw [hwa, ← alloc_size w (.cells #[.int .i64 s.k, .int .i64 s.dp, .int .i64 s.n, .int .u64 s.x, .int .u64 s.y, .bool s.lt] 54)]; exact World.alloc_heap_new _ _
  have HA := Lib.hid (And.intro hba (And.intro ha0 (And.intro ha1 hsa)))
  have c3 := cell_row (cs := [_, _, _, _, _, _]) (j := 3) ha0 rfl
  have c4 := cell_row (cs := [_, _, _, _, _, _]) (j := 4) ha0 rfl
  have HSK : Hid (∀ W : World, Below wa.heap.size wa W → W.cell? ⟨w.heap.size, 3, none⟩ = some (.int .u64 s.x) ∧ W.cell? ⟨w.heap.size, 4, none⟩ = some (.int .u64 s.y)) :=
    Lib.hid fun W hW => ⟨(hW.cell (p := ⟨w.heap.size, 3, none⟩) (lt_of_cell c3)).trans c3, (hW.cell (p := ⟨w.heap.size, 4, none⟩) (lt_of_cell c4)).trans c4⟩
  have HAL := Lib.hid (show Below wa.heap.size wa (wa.drew.alloc (.cells #[.int .u64 0, .int .u64 0] 71)) from by have h := (Below.refl wa.heap.size wa.drew).alloc (Nat.le_refl _) (.cells #[.int .u64 0, .int .u64 0] 71); exact ⟨h.os, h.tape, h.output, h.size, h.block⟩)
  have HAM := Lib.hid (show Below wa.heap.size wa (wa.alloc (.cells #[.int .u64 (finB s.x), .int .u64 (finB s.y)] 71)).drew from by have h := (Below.refl wa.heap.size wa).alloc (Nat.le_refl _) (.cells #[.int .u64 (finB s.x), .int .u64 (finB s.y)] 71); exact ⟨h.os, h.tape, h.output, h.size, h.block⟩)
  clear hba ha0 ha1 hsa c3 c4
  go_enter Tryd.func38, Tryd.ntmps38
  go_upto_region 1 with (fail)
  rw [← hwa]
  clear hwa
  go_cut [3] (fun v W => v = .pointer (some ⟨w.heap.size + 2, 0, none⟩) ∧ Below wa.heap.size wa W ∧ W.heap[w.heap.size + 2]? = some (.cells #[.int .u64 s.pt.1, .int .u64 s.pt.2] 71 (0, 0)) ∧ W.heap.size = w.heap.size + 3)
  case first =>
    go_region_held3 (fun W => W.cell? ⟨w.heap.size, 3, none⟩ = some (.int .u64 s.x) ∧ W.cell? ⟨w.heap.size, 4, none⟩ = some (.int .u64 s.y))
      (first
        | exact HSK.out _ (below_drew0 _)
        | exact HSK.out _ HAL.out
        | exact HSK.out _ HAM.out)
      ((first
        | (go_at_call_of 54 (s.x)
           refine (HX.out _).mono ?_
           rintro e w' ⟨rfl, rfl⟩)
        | (go_at_call_of 54 (s.y)
           refine (HY.out _).mono ?_
           rintro e w' ⟨rfl, rfl⟩)))
    all_goals
      go_wp2_with fail
      go_meet
      case rel =>
        have e := HA.out.2.2.2
        refine ⟨by rw [e], HAM.out, ?_, ?_⟩
        · rw [← e]; exact World.alloc_heap_new _ _
        · rw [show w.heap.size + 3 = wa.heap.size + 1 by omega]; exact alloc_size _ _
  case rest =>
    obtain ⟨rfl, hbc, hcb, hcs⟩ := hcut
    obtain ⟨w3, hw3⟩ : ∃ w3, w3 = (wc.alloc (.cells #[.int .u64 s.pt.1, .int .u64 s.pt.2] 71)).alloc (.cells #[.int .i64 1, .slice (some ⟨w.heap.size + 3, 0, none⟩) 1 1, .slice none 0 0, .slice none 0 0] 51) := ⟨_, rfl⟩
    have hM : MadeS w w3 s := by
      have e := HA.out.2.2.2
      have h1 := (Below.refl wc.heap.size wc).alloc (Nat.le_refl _) (.cells #[.int .u64 s.pt.1, .int .u64 s.pt.2] 71)
      have h2 : Below wc.heap.size wc w3 := by rw [hw3]; exact h1.alloc h1.size _
      have hz := alloc_size wc (.cells #[.int .u64 s.pt.1, .int .u64 s.pt.2] 71)
      refine ⟨HA.out.1.trans ((hbc.trans (h2.mono hbc.size)).mono HA.out.1.size), ?_, ?_, ?_, ?_, ?_, ?_⟩
      · exact (h2.block _ (by omega)).trans ((hbc.block _ (by omega)).trans HA.out.2.1)
      · exact (h2.block _ (by omega)).trans ((hbc.block _ (by omega)).trans HA.out.2.2.1)
      · exact (h2.block _ (by omega)).trans hcb
      · rw [hw3, alloc_old _ _ (by omega), ← hcs]; exact World.alloc_heap_new _ _
      · rw [hw3, show w.heap.size + 4 = (wc.alloc (.cells #[.int .u64 s.pt.1, .int .u64 s.pt.2] 71)).heap.size by omega]; exact World.alloc_heap_new _ _
      · rw [hw3, alloc_size]; omega
    have p0 := cell_row (cs := [_, _]) (j := 0) hcb rfl
    have p1 := cell_row (cs := [_, _]) (j := 1) hcb rfl
    have HM := Lib.hid hM
    have m0 := cell_row (cs := [_, _, _, _, _, _]) (j := 0) hM.b0 rfl
    clear hM HSK HAL HAM HA hbc hcb
    have HIK := Lib.hid (into_any s.k 4 w3 (by omega) (by omega))
    have HIN := Lib.hid (fun n W => into_any n 4 W (by omega) (by omega))
    have HID := Lib.hid (fun n W => into_any n 5 W (by omega) (by omega))
    have hk4 : s.k % 4 = 0 ∨ s.k % 4 = 1 ∨ s.k % 4 = 2 ∨ s.k % 4 = 3 := by omega
    go_upto_region 3 with (fail)
    rw [← hw3]
    clear hw3 p0 p1 hcs
    go_wp2_with fail
    refine HIK.out.mono ?_
    rintro e w' ⟨rfl, rfl⟩
    have r0 := cell_row (cs := [_, _, _, _]) (j := 0) HM.out.b1 rfl
    have r1 := cell_row (cs := [_, _, _, _]) (j := 1) HM.out.b1 rfl
    have r2 := cell_row (cs := [_, _, _, _]) (j := 2) HM.out.b1 rfl
    have r3 := cell_row (cs := [_, _, _, _]) (j := 3) HM.out.b1 rfl
    have f0 := frozen_of_row w3 (w.heap.size + 1) 0 _ _ HM.out.b1
    have f1 := frozen_of_row w3 (w.heap.size + 1) 1 _ _ HM.out.b1
    have f2 := frozen_of_row w3 (w.heap.size + 1) 2 _ _ HM.out.b1
    have f3 := frozen_of_row w3 (w.heap.size + 1) 3 _ _ HM.out.b1
    have q0 := cell_row (cs := [_, _, _, _]) (j := 0) HM.out.b4 rfl
    have q1 := cell_row (cs := [_, _, _, _]) (j := 1) HM.out.b4 rfl
    have q2 := cell_row (cs := [_, _, _, _]) (j := 2) HM.out.b4 rfl
    have q3 := cell_row (cs := [_, _, _, _]) (j := 3) HM.out.b4 rfl
    rcases hk4 with hk | hk | hk | hk
    · have hmade : s.made = s.point := by unfold Shp.made; rw [if_pos hk]
      rw [hk]
      go_wp2_with fail
      obtain ⟨e1, e2, e3, e4⟩ := four_set HM.out.b1 (.int .i64 1) (.slice (some ⟨w.heap.size + 3, 0, none⟩) 1 1) (.slice none 0 0) (.slice none 0 0) rfl
      refine bodyPost_ret (v := .agg #[.int .i64 1, .slice (some ⟨w.heap.size + 3, 0, none⟩) 1 1, .slice none 0 0, .slice none 0 0]) ?_ rfl ?_
      · refine results_cell_row (p := 2) (ty := 51) Tryd.results38 _ _ (w.heap.size + 1) _ _ _ _ ?_ e1 Tryd.underlying51 rfl Tryd.infoG4
        rfl
      refine ⟨[_, _, _, _], rfl, ?_, e4 _ _ (by omega) HM.out.below⟩
      rw [hmade]
      exact ((HM.out.point hs).keeps (fun b o hb ho _ => by subst hb; exact (e2 _ (by omega)).trans ho)).mono fun b _ hb => by omega
    · have hmade : s.made = .mk 1 [] [] [] := by unfold Shp.made; rw [if_neg (by omega), if_pos hk]
      rw [hk]
      go_wp2_with fail
      obtain ⟨e1, e2, e3, e4⟩ := four_set HM.out.b1 (.int .i64 1) (.slice none 0 0) (.slice none 0 0) (.slice none 0 0) rfl
      refine bodyPost_ret (v := .agg #[.int .i64 1, .slice none 0 0, .slice none 0 0, .slice none 0 0]) ?_ rfl ?_
      · refine results_cell_row (p := 2) (ty := 51) Tryd.results38 _ _ (w.heap.size + 1) _ _ _ _ ?_ e1 Tryd.underlying51 rfl Tryd.infoG4
        rfl
      refine ⟨[_, _, _, _], rfl, ?_, e4 _ _ (by omega) HM.out.below⟩
      rw [hmade]
      simp only [IsG]
      exact ⟨_, _, _, rfl, ⟨by simp, Sl.nil _ _⟩, ⟨[], Sl.nil _ _, .nil⟩, [], Sl.nil _ _, rfl⟩
    · have hmade : s.made = .mk 2 (pairs s.pt (s.n % 4).toNat) [] [] := by unfold Shp.made; rw [if_neg (by omega), if_neg (by omega), if_pos hk]
      obtain ⟨w4, hw4⟩ : ∃ w4, w4 = w3.alloc (.cells #[.int .i64 2, .slice none 0 0, .slice none 0 0, .slice none 0 0] 51) := ⟨_, rfl⟩
      have hb4 : Below w3.heap.size w3 w4 := by rw [hw4]; exact (Below.refl _ _).alloc (Nat.le_refl _) _
      have hx4 : w4.heap[w.heap.size + 5]? = some (.cells #[.int .i64 2, .slice none 0 0, .slice none 0 0, .slice none 0 0] 51 (0, 0)) := by rw [hw4, ← HM.out.size]; exact World.alloc_heap_new _ _
      have hs4 : w4.heap.size = w.heap.size + 6 := by rw [hw4, alloc_size, HM.out.size]
      have hsz3 := HM.out.size
      have H4 := Lib.hid (And.intro hb4 (And.intro hx4 hs4))
      clear hb4 hx4 hs4 r0 r1 r2 r3 f0 f1 f2 f3 q0 q1 q2 q3
      rw [hk]
      go_upto_region 10 with (fail)
      rw [← hw4]
      clear hw4 hsz3
      go_wp2_with fail
      go_loopw [6] (fun i W => ∃ j : Nat, j ≤ (s.n % 4).toNat ∧ i = .int .i64 j ∧ Hid (∃ v, Below w3.heap.size w3 W ∧ W.heap[w.heap.size + 5]? = some (.cells #[.int .i64 2, v, .slice none 0 0, .slice none 0 0] 51 (0, 0)) ∧ W.ownsRow (w.heap.size + 6) 71 2 v (2 * j) (ptCells (pairs s.pt j)))) (fun i _ => (s.n % 4).toNat - (intOf i).toNat)
      case atStart => exact ⟨0, Nat.zero_le _, rfl, Lib.hid ⟨_, H4.out.1, H4.out.2.1, World.ownsRow_nil _ _ _ _⟩⟩
      case round =>
        obtain ⟨j, hj, rfl, HR⟩ := hrel
        obtain ⟨v, hbr, hxr, hor⟩ := HR.out
        have HIW := Lib.hid (into_any s.n 4 wr (by omega) (by omega))
        have hsz3 := HM.out.size
        have hsr := hbr.size
        have m2 := cell_row (cs := [_, _, _, _, _, _]) (j := 2) ((hbr.block _ (by omega)).trans HM.out.b0) rfl
        have p0 := cell_row (cs := [_, _]) (j := 0) ((hbr.block _ (by omega)).trans HM.out.b2) rfl
        have p1 := cell_row (cs := [_, _]) (j := 1) ((hbr.block _ (by omega)).trans HM.out.b2) rfl
        have v0 := cell_row (cs := [_, _, _, _]) (j := 0) hxr rfl
        have v1 := cell_row (cs := [_, _, _, _]) (j := 1) hxr rfl
        have v2 := cell_row (cs := [_, _, _, _]) (j := 2) hxr rfl
        have v3 := cell_row (cs := [_, _, _, _]) (j := 3) hxr rfl
        have hl5 := lt_of_heap hxr
        obtain ⟨nn, hnn⟩ : ∃ nn : Nat, s.n % 4 = nn := ⟨(s.n % 4).toNat, by omega⟩
        have hn4 : nn < 4 := by omega
        rw [hnn] at HIW hj ⊢
        by_cases hjn : j < nn
        · have hb5 := (Below.refl wr.heap.size wr).alloc (Nat.le_refl _) (.cells #[.int .u64 s.pt.1, .int .u64 s.pt.2, .int .u64 s.pt.2, .int .u64 s.pt.1] 71)
          have hx5 : (wr.alloc (.cells #[.int .u64 s.pt.1, .int .u64 s.pt.2, .int .u64 s.pt.2, .int .u64 s.pt.1] 71)).heap[wr.heap.size]? = some (.cells #[.int .u64 s.pt.1, .int .u64 s.pt.2, .int .u64 s.pt.2, .int .u64 s.pt.1] 71 (0, 0)) := World.alloc_heap_new _ _
          have HO := Lib.hid (And.intro (ownsRow_below hor hb5) (And.intro hb5 hx5))
          clear hb5 hx5 hor
          go_wp2_with fail
          refine HIW.out.mono ?_
          rintro e w' ⟨rfl, rfl⟩
          go_wp2_with (first
            | (at_builtin
               go_must (
               refine (list_appendPt rfl (.tmp 40) (.tmp 47) rfl (m := 2) (c := 2) (news := [.int .u64 s.pt.1, .int .u64 s.pt.2, .int .u64 s.pt.2, .int .u64 s.pt.1]) v (by rfl) (by rfl) HO.out.1 rfl (fun i u hi => cell_row (cs := [_, _, _, _]) HO.out.2.2 hi) (by simp [Value.oneCell']) (by omega) (by omega) (Nat.le_trans (by omega) HO.out.2.1.size) ?_)
               intro g3 cap3 w5 ho3 hgr3 hg3 hlt3
               have HR3 := Lib.hid (And.intro ho3 (And.intro hgr3 hg3))
               have hx5 : w5.heap[w.heap.size + 5]? = some (.cells #[.int .i64 2, v, .slice none 0 0, .slice none 0 0] 51 (0, 0)) := by
                 rw [hgr3.block _ (by have := HO.out.2.1.size; omega) (fun e => by have := (World.ownsRow.lt HO.out.1 _ e.symm).1; omega), HO.out.2.1.block _ (by omega)]
                 exact hxr
               have HX5 := Lib.hid hx5
               have y1 := cell_row (cs := [_, _, _, _]) (j := 1) hx5 rfl
               have z1 := frozen_of_row w5 (w.heap.size + 5) 1 _ _ hx5
               clear ho3 hgr3 hg3 hx5))
            | fail)
          go_roundw
          · obtain ⟨q1, q2⟩ := two_lift HX5.out (.slice (some ⟨g3, 0, none⟩) (2 * j + 2) cap3)
            refine ⟨j + 1, by omega, by simp, Lib.hid ⟨_, ?_, q1, ?_⟩⟩
            · exact ((hbr.trans (HO.out.2.1.mono hsr)).grown HR3.out.2.1 (Nat.le_trans hsr HO.out.2.1.size) (fun k e => by have := (World.ownsRow.lt HO.out.1 k e).1; omega)).setCell (by simp only; omega) _
            · have h := World.ownsRow.kept HR3.out.1 (grownBy_set w5 ⟨w.heap.size + 5, 1, none⟩ (.slice (some ⟨g3, 0, none⟩) (2 * j + 2) cap3)) (.inr (by
                have := (World.ownsRow.lt HR3.out.1 g3 rfl).1
                simp [Value.ownBlock]; omega))
              rw [show 2 * (j + 1) = 2 * j + 2 by omega]
              simpa [pairs, ptCells_append, ptCells] using h
          · simp [intOf]; omega
        · have hje : j = nn := by omega
          subst hje
          obtain ⟨A, c, rfl, _⟩ := Sl.of_own hor (by omega)
          have r0 := cell_row (cs := [_, _, _, _]) (j := 0) ((hbr.block _ (by omega)).trans HM.out.b1) rfl
          have r1 := cell_row (cs := [_, _, _, _]) (j := 1) ((hbr.block _ (by omega)).trans HM.out.b1) rfl
          have r2 := cell_row (cs := [_, _, _, _]) (j := 2) ((hbr.block _ (by omega)).trans HM.out.b1) rfl
          have r3 := cell_row (cs := [_, _, _, _]) (j := 3) ((hbr.block _ (by omega)).trans HM.out.b1) rfl
          have hb1r := (hbr.block _ (by omega)).trans HM.out.b1
          have f0 := frozen_of_row wr (w.heap.size + 1) 0 _ _ hb1r
          have f1 := frozen_of_row wr (w.heap.size + 1) 1 _ _ hb1r
          have f2 := frozen_of_row wr (w.heap.size + 1) 2 _ _ hb1r
          have f3 := frozen_of_row wr (w.heap.size + 1) 3 _ _ hb1r
          have HXR := Lib.hid (And.intro hb1r (And.intro hor hbr))
          have HNN := Lib.hid hnn
          clear hb1r hor hxr hbr HR hnn
          go_wp2_with fail
          refine HIW.out.mono ?_
          rintro e w' ⟨rfl, rfl⟩
          go_wp2_with fail
          obtain ⟨e1, e2, e3, e4⟩ := four_set HXR.out.1 (.int .i64 2) (.slice A (2 * j) c) (.slice none 0 0) (.slice none 0 0) rfl
          refine bodyPost_ret (v := .agg #[.int .i64 2, .slice A (2 * j) c, .slice none 0 0, .slice none 0 0]) ?_ rfl ?_
          · refine results_cell_row (p := 2) (ty := 51) Tryd.results38 _ _ (w.heap.size + 1) _ _ _ _ ?_ e1 Tryd.underlying51 rfl Tryd.infoG4
            rfl
          refine ⟨[_, _, _, _], rfl, ?_, e4 _ _ (by omega) (HM.out.below.trans (HXR.out.2.2.mono HM.out.below.size))⟩
          rw [hmade, HNN.out]
          simp only [IsG, Int.toNat_natCast]
          refine ⟨_, _, _, rfl, ⟨pairs_ok (finB_lt hs.1) (finB_lt hs.2) j, ?_⟩, ⟨[], Sl.nil _ _, .nil⟩, [], Sl.nil _ _, rfl⟩
          rw [pairs_length]
          refine ((Sl.of_own HXR.out.2.1 (by omega)).keeps fun b o hb ho _ => (e2 _ (by omega)).trans ho).mono fun b _ hb => by omega
    · have hmade : s.made = nest (s.dp % 5).toNat (.mk 7 [] [] (List.replicate (s.n % 4).toNat s.point)) := by unfold Shp.made; rw [if_neg (by omega), if_neg (by omega), if_neg (by omega)]
      obtain ⟨w4, hw4⟩ : ∃ w4, w4 = w3.alloc (.cells #[.int .i64 7, .slice none 0 0, .slice none 0 0, .slice none 0 0] 51) := ⟨_, rfl⟩
      have hb4 : Below w3.heap.size w3 w4 := by rw [hw4]; exact (Below.refl _ _).alloc (Nat.le_refl _) _
      have hx4 : w4.heap[w.heap.size + 5]? = some (.cells #[.int .i64 7, .slice none 0 0, .slice none 0 0, .slice none 0 0] 51 (0, 0)) := by rw [hw4, ← HM.out.size]; exact World.alloc_heap_new _ _
      have hs4 : w4.heap.size = w.heap.size + 6 := by rw [hw4, alloc_size, HM.out.size]
      have hsz3 := HM.out.size
      have H4 := Lib.hid (And.intro hb4 (And.intro hx4 hs4))
      clear hb4 hx4 hs4 r0 r1 r2 r3 f0 f1 f2 f3 q0 q1 q2 q3
      rw [hk]
      go_upto_region 16 with (fail)
      rw [← hw4]
      clear hw4 hsz3
      obtain ⟨C, hC⟩ : ∃ C, C = [Value.int .i64 1, .slice (some ⟨w.heap.size + 3, 0, none⟩) 1 1, .slice none 0 0, .slice none 0 0] := ⟨_, rfl⟩
      have HC := Lib.hid hC
      clear hC
      obtain ⟨nn, hnn⟩ : ∃ nn : Nat, s.n % 4 = nn := ⟨(s.n % 4).toNat, by omega⟩
      obtain ⟨dd, hdd⟩ : ∃ dd : Nat, s.dp % 5 = dd := ⟨(s.dp % 5).toNat, by omega⟩
      have hn4 : nn < 4 := by omega
      have hd5 : dd < 5 := by omega
      have HND := Lib.hid (And.intro hnn hdd)
      clear hnn hdd
      go_wp2_with fail
      go_loopw [8] (fun i W => ∃ j : Nat, j ≤ nn ∧ i = .int .i64 j ∧ Hid (∃ v, Below w3.heap.size w3 W ∧ W.heap[w.heap.size + 5]? = some (.cells #[.int .i64 7, .slice none 0 0, .slice none 0 0, v] 51 (0, 0)) ∧ W.ownsRow (w.heap.size + 6) 51 4 v j (repC C j))) (fun i _ => nn - (intOf i).toNat)
      case atStart => exact ⟨0, Nat.zero_le _, rfl, Lib.hid ⟨_, H4.out.1, H4.out.2.1, World.ownsRow_nil _ _ _ _⟩⟩
      case round =>
        obtain ⟨j, hj, rfl, HR⟩ := hrel
        obtain ⟨v, hbr, hxr, hor⟩ := HR.out
        have HIW := Lib.hid (into_any s.n 4 wr (by omega) (by omega))
        rw [HND.out.1] at HIW
        have hsz3 := HM.out.size
        have hsr := hbr.size
        have m2 := cell_row (cs := [_, _, _, _, _, _]) (j := 2) ((hbr.block _ (by omega)).trans HM.out.b0) rfl
        have p0 := cell_row (cs := [_, _, _, _]) (j := 0) ((hbr.block _ (by omega)).trans HM.out.b4) rfl
        have p1 := cell_row (cs := [_, _, _, _]) (j := 1) ((hbr.block _ (by omega)).trans HM.out.b4) rfl
        have p2 := cell_row (cs := [_, _, _, _]) (j := 2) ((hbr.block _ (by omega)).trans HM.out.b4) rfl
        have p3 := cell_row (cs := [_, _, _, _]) (j := 3) ((hbr.block _ (by omega)).trans HM.out.b4) rfl
        have v3 := cell_row (cs := [_, _, _, _]) (j := 3) hxr rfl
        have hl5 := lt_of_heap hxr
        by_cases hjn : j < nn
        · have hb5 := (Below.refl wr.heap.size wr).alloc (Nat.le_refl _) (.cells #[.int .i64 1, .slice (some ⟨w.heap.size + 3, 0, none⟩) 1 1, .slice none 0 0, .slice none 0 0] 51)
          have hx5 : (wr.alloc (.cells #[.int .i64 1, .slice (some ⟨w.heap.size + 3, 0, none⟩) 1 1, .slice none 0 0, .slice none 0 0] 51)).heap[wr.heap.size]? = some (.cells #[.int .i64 1, .slice (some ⟨w.heap.size + 3, 0, none⟩) 1 1, .slice none 0 0, .slice none 0 0] 51 (0, 0)) := World.alloc_heap_new _ _
          have HO := Lib.hid (And.intro (ownsRow_below hor hb5) (And.intro hb5 hx5))
          clear hb5 hx5 hor
          go_wp2_with fail
          refine HIW.out.mono ?_
          rintro e w' ⟨rfl, rfl⟩
          go_wp2_with (first
            | (at_builtin
               go_must (
               refine (list_appendG rfl (.tmp 60) (.tmp 62) rfl v (by rfl) (by rfl) HO.out.1 (fun i u hi => cell_row (cs := [_, _, _, _]) HO.out.2.2 hi) (by simp [Value.oneCell']) (by omega) (Nat.le_trans (by omega) HO.out.2.1.size) ?_)
               intro g3 cap3 w5 ho3 hgr3 hg3 hlt3
               have HR3 := Lib.hid (And.intro ho3 (And.intro hgr3 hg3))
               have hx5 : w5.heap[w.heap.size + 5]? = some (.cells #[.int .i64 7, .slice none 0 0, .slice none 0 0, v] 51 (0, 0)) := by
                 rw [hgr3.block _ (by have := HO.out.2.1.size; omega) (fun e => by have := (World.ownsRow.lt HO.out.1 _ e.symm).1; omega), HO.out.2.1.block _ (by omega)]
                 exact hxr
               have HX5 := Lib.hid hx5
               have y1 := cell_row (cs := [_, _, _, _]) (j := 3) hx5 rfl
               have z1 := frozen_of_row w5 (w.heap.size + 5) 3 _ _ hx5
               clear ho3 hgr3 hg3 hx5))
            | fail)
          go_roundw
          · obtain ⟨q1, q2⟩ := four_lift HX5.out (.slice (some ⟨g3, 0, none⟩) (j + 1) cap3)
            refine ⟨j + 1, by omega, by simp, Lib.hid ⟨_, ?_, q1, ?_⟩⟩
            · exact ((hbr.trans (HO.out.2.1.mono hsr)).grown HR3.out.2.1 (Nat.le_trans hsr HO.out.2.1.size) (fun k e => by have := (World.ownsRow.lt HO.out.1 k e).1; omega)).setCell (by simp only; omega) _
            · have h := World.ownsRow.kept HR3.out.1 (grownBy_set w5 ⟨w.heap.size + 5, 3, none⟩ (.slice (some ⟨g3, 0, none⟩) (j + 1) cap3)) (.inr (by
                have := (World.ownsRow.lt HR3.out.1 g3 rfl).1
                simp [Value.ownBlock]; omega))
              simpa [repC, HC.out] using h
          · simp [intOf]; omega
        · have hje : j = nn := by omega
          subst hje
          go_wp2_with fail
          refine HIW.out.mono ?_
          rintro e w' ⟨rfl, rfl⟩
          have hgs : IsGs (fun b => w.heap.size + 2 ≤ b ∧ b ≠ w.heap.size + 5) wr (List.replicate j s.point) (repC C j) := by
            rw [HC.out]
            exact isGs_rep (((HM.out.point hs).keeps (fun b o hb ho _ => by subst hb; exact (hbr.block _ (by omega)).trans ho)).mono fun b _ hb => by omega) j
          have hG : IsG (fun b => w.heap.size + 2 ≤ b ∧ b ≠ w.heap.size + 5) wr (.mk 7 [] [] (List.replicate j s.point)) [.int .i64 7, .slice none 0 0, .slice none 0 0, v] := by
            simp only [IsG]
            refine ⟨_, _, _, rfl, ⟨by simp, Sl.nil _ _⟩, ⟨[], Sl.nil _ _, .nil⟩, _, ?_, hgs⟩
            rw [List.length_replicate]
            exact (Sl.of_own hor (by omega)).mono fun b _ hb => by omega
          obtain ⟨A, c, rfl, _⟩ := Sl.of_own hor (by omega)
          have HS := Lib.hid (And.intro hbr (And.intro hxr hG))
          obtain ⟨w6, hw6⟩ : ∃ w6, w6 = wr := ⟨_, rfl⟩
          clear hgs hG hor hxr hbr HR HIW m2 p0 p1 p2 p3 v3
          go_wp2_with fail
          go_loopw [9] (fun i W => ∃ d : Nat, d ≤ dd ∧ i = .int .i64 d ∧ Hid (∃ A n c, Below w3.heap.size w3 W ∧ W.heap[w.heap.size + 5]? = some (.cells #[.int .i64 7, .slice none 0 0, .slice none 0 0, .slice A n c] 51 (0, 0)) ∧ IsG (fun b => w.heap.size + 2 ≤ b ∧ b ≠ w.heap.size + 5) W (nest d (.mk 7 [] [] (List.replicate j s.point))) [.int .i64 7, .slice none 0 0, .slice none 0 0, .slice A n c])) (fun i _ => dd - (intOf i).toNat)
          case atStart => exact ⟨0, Nat.zero_le _, rfl, Lib.hid ⟨_, _, _, HS.out⟩⟩
          case round =>
            obtain ⟨d, hd, rfl, HR⟩ := hrel
            obtain ⟨B, n, cb, hbr, hxr, hG⟩ := HR.out
            have HIW := Lib.hid (into_any s.dp 5 wr (by omega) (by omega))
            rw [HND.out.2] at HIW
            have hsz3 := HM.out.size
            have hsr := hbr.size
            have m1 := cell_row (cs := [_, _, _, _, _, _]) (j := 1) ((hbr.block _ (by omega)).trans HM.out.b0) rfl
            have x0 := cell_row (cs := [_, _, _, _]) (j := 0) hxr rfl
            have x1 := cell_row (cs := [_, _, _, _]) (j := 1) hxr rfl
            have x2 := cell_row (cs := [_, _, _, _]) (j := 2) hxr rfl
            have x3 := cell_row (cs := [_, _, _, _]) (j := 3) hxr rfl
            have hl5 := lt_of_heap hxr
            by_cases hdn : d < dd
            · have hb5 := (Below.refl wr.heap.size wr).alloc (Nat.le_refl _) (.cells #[.int .i64 7, .slice none 0 0, .slice none 0 0, .slice B n cb] 51)
              have hx5 : (wr.alloc (.cells #[.int .i64 7, .slice none 0 0, .slice none 0 0, .slice B n cb] 51)).heap[wr.heap.size]? = some (.cells #[.int .i64 7, .slice none 0 0, .slice none 0 0, .slice B n cb] 51 (0, 0)) := World.alloc_heap_new _ _
              have hy5 := (hb5.block _ hl5).trans hxr
              have f0 := frozen_of_row wr (w.heap.size + 5) 0 _ _ hxr
              have f1 := frozen_of_row wr (w.heap.size + 5) 1 _ _ hxr
              have f2 := frozen_of_row wr (w.heap.size + 5) 2 _ _ hxr
              have f3 := frozen_of_row wr (w.heap.size + 5) 3 _ _ hxr
              have HG := Lib.hid (And.intro hbr (And.intro hG hxr))
              clear hb5 hx5 hy5 hxr hbr hG HR
              go_wp2_with fail
              refine HIW.out.mono ?_
              rintro e w' ⟨rfl, rfl⟩
              go_wp2_with fail
              go_roundw
              · obtain ⟨V, hV⟩ : ∃ V, V = (((wr.setCell ⟨w.heap.size + 5, 0, none⟩ (.int .i64 7)).setCell ⟨w.heap.size + 5, 1, none⟩ (.slice none 0 0)).setCell ⟨w.heap.size + 5, 2, none⟩ (.slice none 0 0)).setCell ⟨w.heap.size + 5, 3, none⟩ (.slice (some ⟨wr.heap.size, 0, none⟩) 1 1) := ⟨_, rfl⟩
                obtain ⟨e1, e2, e3, e4⟩ := four_set HG.out.2.2 (.int .i64 7) (.slice none 0 0) (.slice none 0 0) (.slice (some ⟨wr.heap.size, 0, none⟩) 1 1) hV
                rw [← hV]
                have hbv := (Below.refl V.heap.size V).alloc (Nat.le_refl _) (.cells #[.int .i64 7, .slice none 0 0, .slice none 0 0, .slice B n cb] 51)
                have hxv : (V.alloc (.cells #[.int .i64 7, .slice none 0 0, .slice none 0 0, .slice B n cb] 51)).heap[wr.heap.size]? = some (.cells #[.int .i64 7, .slice none 0 0, .slice none 0 0, .slice B n cb] 51 (0, 0)) := by rw [← e3]; exact World.alloc_heap_new _ _
                refine ⟨d + 1, hdn, by simp, Lib.hid ⟨_, _, _, (e4 _ _ (by omega) HG.out.1).trans (hbv.mono (by omega)), (hbv.block _ (by omega)).trans e1, ?_⟩⟩
                simp only [nest, IsG]
                refine ⟨_, _, _, rfl, ⟨by simp, Sl.nil _ _⟩, ⟨[], Sl.nil _ _, .nil⟩, [.int .i64 7, .slice none 0 0, .slice none 0 0, .slice B n cb], ⟨_, _, rfl, Nat.le_refl _, by simp, .inr ⟨_, _, rfl, ⟨by omega, by omega⟩, fun i c hc => ?_⟩⟩, IsGs.one ?_⟩
                · rw [Nat.zero_add]; exact cell_row (cs := [_, _, _, _]) hxv hc
                · exact HG.out.2.1.keeps fun b o hb ho _ => ((hbv.block _ (by have := lt_of_heap ho; omega)).trans (e2 b hb.2)).trans ho
              · simp [intOf]; omega
            · have hde : d = dd := by omega
              subst hde
              have hb1r := (hbr.block _ (show w.heap.size + 1 < w3.heap.size by omega)).trans HM.out.b1
              have r0 := cell_row (cs := [_, _, _, _]) (j := 0) hb1r rfl
              have r1 := cell_row (cs := [_, _, _, _]) (j := 1) hb1r rfl
              have r2 := cell_row (cs := [_, _, _, _]) (j := 2) hb1r rfl
              have r3 := cell_row (cs := [_, _, _, _]) (j := 3) hb1r rfl
              have f0 := frozen_of_row wr (w.heap.size + 1) 0 _ _ hb1r
              have f1 := frozen_of_row wr (w.heap.size + 1) 1 _ _ hb1r
              have f2 := frozen_of_row wr (w.heap.size + 1) 2 _ _ hb1r
              have f3 := frozen_of_row wr (w.heap.size + 1) 3 _ _ hb1r
              have HXR := Lib.hid (And.intro hb1r (And.intro hG hbr))
              clear hb1r hG hxr hbr HR
              go_wp2_with fail
              refine HIW.out.mono ?_
              rintro e w' ⟨rfl, rfl⟩
              go_wp2_with fail
              obtain ⟨e1, e2, e3, e4⟩ := four_set HXR.out.1 (.int .i64 7) (.slice none 0 0) (.slice none 0 0) (.slice B n cb) rfl
              refine bodyPost_ret (v := .agg #[.int .i64 7, .slice none 0 0, .slice none 0 0, .slice B n cb]) ?_ rfl ?_
              · refine results_cell_row (p := 2) (ty := 51) Tryd.results38 _ _ (w.heap.size + 1) _ _ _ _ ?_ e1 Tryd.underlying51 rfl Tryd.infoG4
                rfl
              refine ⟨[_, _, _, _], rfl, ?_, e4 _ _ (by omega) (HM.out.below.trans (HXR.out.2.2.mono HM.out.below.size))⟩
              rw [hmade, HND.out.1, HND.out.2]
              simp only [Int.toNat_natCast]
              exact (HXR.out.2.1.keeps fun b o hb ho _ => (e2 _ (by omega)).trans ho).mono fun b _ hb => by omega
end Go.Proofs.YtlffgepnhhnadaaDoor.Pl
