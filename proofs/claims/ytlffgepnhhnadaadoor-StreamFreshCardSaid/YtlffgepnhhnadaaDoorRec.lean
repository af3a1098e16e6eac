/- stream.record, walked. -/
import Derived.Test.YtlffgepnhhnadaaDoorSum
namespace Go.Proofs.YtlffgepnhhnadaaDoor.Pl
open Go.RowKit

/-- what record finds at the beginning of bytes: it waits; an error; a tree and its length -/
inductive Rec where
  | wait
  | bad (at_ e : Int)
  | got (g : G) (n : Nat)
def markB : List UInt8 := [80, 76, 77, 49]
def recR (l : List UInt8) (depth : Int) : Rec :=
  if l.length < 8 then .wait else
  if l.take 4 ≠ markB then .bad 0 270 else
  if 65536 < wd l 4 4 false then .bad 4 274 else
  if l.length < 8 + wd l 4 4 false + 4 then .wait else
  if wd l (8 + wd l 4 4 false) 4 false ≠ sumR (l.take (8 + wd l 4 4 false)) then .bad (8 + wd l 4 4 false : Nat) 271 else
  match parseR ((l.drop 8).take (wd l 4 4 false)) depth 65536 with
  | .error e => .bad (IntKind.i64.wrap (8 + e.1)) e.2
  | .ok x => .got x.1 (8 + wd l 4 4 false + 4)
/-- what record gives -/
def RecPost (w : World) (r : Rec) (e : Ending) (w' : World) : Prop := ∃ cs n fv, e = .returned (.tuple #[.agg cs.toArray, .int .i64 n, fv]) ∧ Below w.heap.size w w' ∧
  match r with
  | .wait => IsG (fun b => w.heap.size ≤ b) w' (.mk 0 [] [] []) cs ∧ n = 0 ∧ fv = .pointer none
  | .bad a c => IsG (fun b => w.heap.size ≤ b) w' (.mk 0 [] [] []) cs ∧ n = 0 ∧ ∃ fb, fv = .pointer (some ⟨fb, 0, none⟩) ∧ w.heap.size ≤ fb ∧ w'.heap[fb]? = some (.cells #[.int .i64 a, .iface 22 (.int .i64 c)] 102 (0, 0))
  | .got g m => IsN (fun b => w.heap.size ≤ b) w' g cs ∧ n = (m : Int) ∧ fv = .pointer none

theorem Bytes.drop {ok : Nat → Prop} {w : World} {b o c : Nat} {l : List UInt8} (h : Bytes ok w (.slice (some ⟨b, o, none⟩) l.length c) l) (k : Nat) (hk : k ≤ l.length) : Bytes ok w (.slice (some ⟨b, o + k, none⟩) (l.length - k) (c - k)) (l.drop k) := by
  obtain ⟨A, c', hv, h1, h2, h3⟩ := h
  simp only [Value.slice.injEq, true_and] at hv
  obtain ⟨rfl, rfl⟩ := hv
  refine ⟨_, _, by rw [List.length_drop], by rw [List.length_drop]; omega, by rw [List.length_drop]; omega, ?_⟩
  by_cases hn : l.map bv = []
  · left; simp at hn; subst hn; simp
  obtain ⟨b', o', hA, hb, _, hc⟩ := h3.at hn
  simp only [Option.some.injEq, Addr.mk.injEq, and_true] at hA
  obtain ⟨rfl, rfl⟩ := hA
  refine .inr ⟨_, _, rfl, hb, fun i x hx => ?_⟩
  rw [Nat.add_assoc]
  exact hc _ _ (by rw [List.map_drop, List.getElem?_drop] at hx; exact hx)
theorem Bytes.take {ok : Nat → Prop} {w : World} {A : Option Addr} {c : Nat} {l : List UInt8} (h : Bytes ok w (.slice A l.length c) l) (k : Nat) (hk : k ≤ l.length) : Bytes ok w (.slice A k c) (l.take k) := by
  obtain ⟨A', c', hv, h1, h2, h3⟩ := h
  simp only [Value.slice.injEq, true_and] at hv
  obtain ⟨rfl, rfl⟩ := hv
  have hl : (l.take k).length = k := by rw [List.length_take]; omega
  refine ⟨_, _, by rw [hl], by omega, by omega, ?_⟩
  rcases h3 with h3 | ⟨b, o, hA, hb, hc⟩
  · left; rw [List.map_take, h3]; simp
  · refine .inr ⟨b, o, hA, hb, fun i x hx => hc i x ?_⟩
    rw [List.map_take, List.getElem?_take] at hx
    split at hx
    · exact hx
    · cases hx
theorem results_rec {fn : Func} (h : fn.results = #[.cell 4 51, .tmp 5, .tmp 6]) (tmps : Array Value) (w : World) {g : Nat} {cs : Array Value} {t : TypeId} (hcs : cs.size = 4)
    (h4 : tmps.getD 4 undef = .pointer (some ⟨g, 0, none⟩)) (hg : w.heap[g]? = some (.cells cs t (0, 0))) :
    (results fn tmps).run Tryd.prog w = .ok (.tuple #[.agg cs, tmps.getD 5 undef, tmps.getD 6 undef]) w := by
  have h4' : tmps[4]?.getD undef = .pointer (some ⟨g, 0, none⟩) := by simpa using h4
  have r1 := run_loadVar_row (P := Tryd.prog) w g t 51 cs (0, 0) _ hg Tryd.underlying51 rfl (by rw [Tryd.infoG4, hcs])
  have a1 : (asAddr (.pointer (some ⟨g, 0, none⟩))).run Tryd.prog w = .ok ⟨g, 0, none⟩ w := rfl
  simp only [results, h]
  simp [h4', a1, r1, Sem.run_bind, Result.andThen]
theorem zeroG (ok : Nat → Prop) (w : World) : IsG ok w (.mk 0 [] [] []) [.int .i64 0, .slice none 0 0, .slice none 0 0, .slice none 0 0] := by
  simp only [IsG]
  exact ⟨_, _, _, rfl, ⟨by simp, Sl.nil _ _⟩, ⟨[], Sl.nil _ _, .nil⟩, [], Sl.nil _ _, rfl⟩

theorem addn (b o j : Nat) : (⟨b, o, none⟩ : Addr).add j = ⟨b, o + j, none⟩ := by
  cases j <;> simp [Addr.add]
theorem conv_take {ok : Nat → Prop} {w : World} {b o c : Nat} {l : List UInt8} (h : Bytes ok w (.slice (some ⟨b, o, none⟩) l.length c) l) (k : Nat) (hk : k ≤ l.length) (h0 : l ≠ []) :
    (convert 35 9 (.slice (some ⟨b, o, none⟩) k c)).run Tryd.prog w = .ok (.string ⟨(l.take k).toArray⟩) w := by
  have hl : (l.take k).length = k := by rw [List.length_take]; omega
  obtain ⟨A', c', hv, _, _, h3⟩ := h
  simp only [Value.slice.injEq, true_and] at hv
  obtain ⟨rfl, rfl⟩ := hv
  obtain ⟨b', o', hA, _, _, hc⟩ := h3.at (by simpa using h0)
  simp only [Option.some.injEq, Addr.mk.injEq, and_true] at hA
  obtain ⟨rfl, rfl⟩ := hA
  have := run_convert_bytes_back (P := Tryd.prog) w 35 9 5 ⟨b, o, none⟩ c (l.take k) Tryd.underlying35 Tryd.underlying5 Tryd.underlying9 (fun j hj => by
    rw [addn]
    refine hc j _ ?_
    have hj2 : j < l.length := by rw [hl] at hj; omega
    rw [List.getElem_take, List.getElem?_map, List.getElem?_eq_getElem hj2]
    rfl)
  rw [hl] at this
  exact this

theorem bad_end {w V W : World} {z0 z1 z2 z3 : Value} (hg : V.heap[w.heap.size]? = some (.cells #[z0, z1, z2, z3] 51 (0, 0))) (hb : Below w.heap.size w V) (a c : Int)
    (hW : W = ((((V.setCell ⟨w.heap.size, 0, none⟩ (.int .i64 0)).setCell ⟨w.heap.size, 1, none⟩ (.slice none 0 0)).setCell ⟨w.heap.size, 2, none⟩ (.slice none 0 0)).setCell ⟨w.heap.size, 3, none⟩ (.slice none 0 0)).alloc (.cells #[.int .i64 a, .iface 22 (.int .i64 c)] 102)) :
    Below w.heap.size w W ∧ W.heap[w.heap.size]? = some (.cells #[.int .i64 0, .slice none 0 0, .slice none 0 0, .slice none 0 0] 51 (0, 0)) ∧ W.heap[V.heap.size]? = some (.cells #[.int .i64 a, .iface 22 (.int .i64 c)] 102 (0, 0)) ∧ w.heap.size ≤ V.heap.size := by
  obtain ⟨U, hU⟩ : ∃ U, U = (((V.setCell ⟨w.heap.size, 0, none⟩ (.int .i64 0)).setCell ⟨w.heap.size, 1, none⟩ (.slice none 0 0)).setCell ⟨w.heap.size, 2, none⟩ (.slice none 0 0)).setCell ⟨w.heap.size, 3, none⟩ (.slice none 0 0) := ⟨_, rfl⟩
  obtain ⟨q1, q2, q3, q4⟩ := four_set hg _ _ _ _ hU
  rw [← hU] at hW
  have hbU := q4 w.heap.size w (Nat.le_refl _) hb
  have hgl := lt_of_heap hg
  have hbW : Below U.heap.size U W := by rw [hW]; exact (Below.refl _ U).alloc (Nat.le_refl _) _
  exact ⟨hbU.trans (hbW.mono hbU.size), (hbW.block _ (by omega)).trans q1, by rw [← q3, hW]; exact World.alloc_heap_new _ _, by omega⟩

theorem drewN_add (w : World) (a b : Nat) : (w.drewN a).drewN b = w.drewN (a + b) := by
  simp [World.drewN, Nat.add_assoc]
theorem drewN_facts {ok : Nat → Prop} {B gb k : Nat} {w w1 V : World} {v : Value} {l : List UInt8} {X : Option Obj} (h : V = w1.drewN k) (hx : w1.heap[gb]? = X) (hb : Below B w w1) (hg : ErrT w1) (hv : Bytes ok w1 v l) : V.heap[gb]? = X ∧ Below B w V ∧ ErrT V ∧ Bytes ok V v l := by
  subst h
  exact ⟨hx, below_drewN hb k, hg, hv⟩

set_option maxRecDepth 100000 in
set_option maxHeartbeats 1000000 in
theorem record_any {ok : Nat → Prop} {v : Value} {l : List UInt8} (depth : Int) (w : World) (hg : ErrT w) (hv : Bytes ok w v l) :
    Calls Tryd.prog 52 #[v, .int .i64 depth] w (RecPost w (recR l depth)) := by
  obtain ⟨w1, hw1⟩ : ∃ w1, w1 = w.alloc (.cells #[.int .i64 0, .slice none 0 0, .slice none 0 0, .slice none 0 0] 51) := ⟨_, rfl⟩
  have hb1 : Below w.heap.size w w1 := by subst hw1; exact (Below.refl _ w).alloc (Nat.le_refl _) _
  have hx1 : w1.heap[w.heap.size]? = some (.cells #[.int .i64 0, .slice none 0 0, .slice none 0 0, .slice none 0 0] 51 (0, 0)) := by subst hw1; exact World.alloc_heap_new _ _
  have hlt := lt_of_heap hx1
  have hv1 : Bytes ok w1 v l := hv.keeps (below_keeps hb1 ok)
  have hg1 := hg.below hb1
  obtain ⟨A, c, rfl, hc, hl2, hrow⟩ := hv1
  have g0 := cell_row (cs := [_, _, _, _]) (j := 0) hx1 rfl
  have g1 := cell_row (cs := [_, _, _, _]) (j := 1) hx1 rfl
  have g2 := cell_row (cs := [_, _, _, _]) (j := 2) hx1 rfl
  have g3 := cell_row (cs := [_, _, _, _]) (j := 3) hx1 rfl
  have f0 := frozen_row (cs := [_, _, _, _]) hx1 0
  have f1 := frozen_row (cs := [_, _, _, _]) hx1 1
  have f2 := frozen_row (cs := [_, _, _, _]) hx1 2
  have f3 := frozen_row (cs := [_, _, _, _]) hx1 3
  have HF := Lib.hid (fun W x0 x1 x2 x3 hW => four_set (W := W) hx1 x0 x1 x2 x3 hW)
  have HX := Lib.hid (And.intro hb1 (And.intro hx1 hg1))
  have HV : Hid (Bytes ok w1 (.slice A l.length c) l) := Lib.hid ⟨_, _, rfl, hc, hl2, hrow⟩
  clear hb1 hx1 hg1 hv hg
  by_cases h8 : l.length < 8
  · have hR : recR l depth = .wait := by unfold recR; rw [if_pos h8]
    rw [hR]
    have h8i : (l.length : Int) < 8 := by omega
    clear hrow
    go_enter Tryd.func52, Tryd.ntmps52
    go_upto_region 1 with (fail)
    rw [← hw1]
    clear hw1
    go_wp2
    obtain ⟨q1, q2, q3, q4⟩ := HF.out _ _ _ _ _ rfl
    refine bodyPost_ret (results_rec (g := w.heap.size) (cs := #[.int .i64 0, .slice none 0 0, .slice none 0 0, .slice none 0 0]) Tryd.results52 _ _ rfl rfl q1) rfl ?_
    exact ⟨[_, _, _, _], _, _, rfl, q4 _ _ (Nat.le_refl _) HX.out.1, zeroG _ _, rfl, rfl⟩
  obtain ⟨b, o, rfl, hob, hbl, hcell⟩ := hrow.at (by intro e; have h := congrArg List.length e; rw [List.length_map] at h; simp only [List.length_nil] at h; omega)
  have hcv := conv_take HV.out 4 (by omega) (by rintro rfl; simp at h8)
  have HC := Lib.hid hcell
  clear hcell hrow
  have h8i : ¬ (l.length : Int) < 8 := by omega
  go_enter Tryd.func52, Tryd.ntmps52
  go_upto_region 1 with (fail)
  rw [← hw1]
  clear hw1
  by_cases hm : l.take 4 = markB
  · have hmb : (!List.take 4 l == [80, 76, 77, 49]) = false := by rw [hm]; rfl
    have HR1 : Hid (recR l depth = if 65536 < wd l 4 4 false then .bad 4 274 else
        if l.length < 8 + wd l 4 4 false + 4 then .wait else
        if wd l (8 + wd l 4 4 false) 4 false ≠ sumR (l.take (8 + wd l 4 4 false)) then .bad (8 + wd l 4 4 false : Nat) 271 else
        match parseR ((l.drop 8).take (wd l 4 4 false)) depth 65536 with
        | .error e => .bad (IntKind.i64.wrap (8 + e.1)) e.2
        | .ok x => .got x.1 (8 + wd l 4 4 false + 4)) := Lib.hid (by unfold recR; rw [if_neg h8, if_neg (by simpa using hm)])
    have hn4 : Calls Tryd.prog 65 #[.slice (some ⟨b, o + 4, none⟩) (l.length - 4) (c - 4)] w1 fun e w' => e = .returned (.int .u32 (wd l 4 4 false)) ∧ ∃ k, w' = w1.drewN k := by
      have h := number4 w1 (HV.out.drop 4 (by omega)) (by rw [List.length_drop]; omega)
      have e : wd (l.drop 4) 0 4 false = wd l 4 4 false := by simp [wd]
      rw [e] at h; exact h
    have hsl : ∀ m, m + 4 ≤ l.length → ∀ W, Bytes ok W (.slice (some ⟨b, o, none⟩) l.length c) l → Calls Tryd.prog 65 #[.slice (some ⟨b, o + m, none⟩) (l.length - m) (c - m)] W fun e w' => e = .returned (.int .u32 (wd l m 4 false)) ∧ ∃ k, w' = W.drewN k := fun m hm4 W hW => by
      have h := number4 W (hW.drop m (by omega)) (by rw [List.length_drop]; omega)
      have e : wd (l.drop m) 0 4 false = wd l m 4 false := by simp [wd]
      rw [e] at h; exact h
    have hsm : ∀ m, m ≤ l.length → ∀ W, Bytes ok W (.slice (some ⟨b, o, none⟩) l.length c) l → Calls Tryd.prog 25 #[.slice (some ⟨b, o, none⟩) m c] W fun e w' => e = .returned (.int .u32 (sumR (l.take m))) ∧ W = w' := fun m hm4 W hW => Sum_any W (hW.take m hm4)
    have HN := Lib.hid hn4
    have HSL := Lib.hid hsl
    have HSM := Lib.hid hsm
    clear hn4 hsl hsm hm
    have hwl := wd_lt l 4 4 false
    obtain ⟨x, hx⟩ : ∃ x, wd l 4 4 false = x := ⟨_, rfl⟩
    rw [hx] at HR1 HN hwl
    have HWX := Lib.hid hx
    clear hx
    go_wp2_with fail
    refine HN.out.mono ?_
    rintro e w2 ⟨rfl, k2, hw2⟩
    obtain ⟨hx2, hb2, hg2, hv2⟩ := drewN_facts hw2 HX.out.2.1 HX.out.1 HX.out.2.2 HV.out
    have hs2 : w2.heap.size = w1.heap.size := by rw [hw2]; rfl
    clear hw2 HN g0 g1 g2 g3 f0 f1 f2 f3 hcv
    have hlt2 := lt_of_heap hx2
    by_cases hbig : 65536 < x
    · have hbi : (65536 : Int) < (x : Int) := by omega
      have hR : recR l depth = .bad 4 274 := by rw [HR1.out, if_pos hbig]
      have HRR := Lib.hid hR
      have HE := Lib.hid (fun W hW => bad_end (W := W) hx2 hb2 4 274 hW)
      have g0 := cell_row (cs := [_, _, _, _]) (j := 0) hx2 rfl
      have g1 := cell_row (cs := [_, _, _, _]) (j := 1) hx2 rfl
      have g2 := cell_row (cs := [_, _, _, _]) (j := 2) hx2 rfl
      have g3 := cell_row (cs := [_, _, _, _]) (j := 3) hx2 rfl
      have f0 := frozen_row (cs := [_, _, _, _]) hx2 0
      have f1 := frozen_row (cs := [_, _, _, _]) hx2 1
      have f2 := frozen_row (cs := [_, _, _, _]) hx2 2
      have f3 := frozen_row (cs := [_, _, _, _]) hx2 3
      clear hR hx2 hb2 hg2 hv2 hs2 HR1
      go_wp2
      obtain ⟨q1, q2, q3, q4⟩ := HE.out _ rfl
      refine bodyPost_ret (results_rec (g := w.heap.size) (cs := #[.int .i64 0, .slice none 0 0, .slice none 0 0, .slice none 0 0]) Tryd.results52 _ _ rfl rfl q2) rfl ?_
      exact ⟨[_, _, _, _], _, _, rfl, q1, by rw [HRR.out]; exact ⟨zeroG _ _, rfl, _, rfl, q4, q3⟩⟩
    have hbi : ¬ (65536 : Int) < (x : Int) := by omega
    have HN3 := Lib.hid (HSL.out 4 (by omega) w2 hv2)
    rw [HWX.out] at HN3
    have hwe : IntKind.i64.wrap (8 + (x : Int)) = 8 + (x : Int) := by rw [IntKind.wrap_i64]; omega
    have hwe4 : IntKind.i64.wrap (8 + (x : Int) + 4) = 8 + (x : Int) + 4 := by rw [IntKind.wrap_i64]; omega
    have HX2 := Lib.hid (And.intro hx2 (And.intro hb2 (And.intro hg2 hv2)))
    clear hx2 hb2 hg2 hv2
    go_wp2_with fail
    refine HN3.out.mono ?_
    rintro e w3 ⟨rfl, k3, hw3⟩
    obtain ⟨hx3, hb3, hg3, hv3⟩ := drewN_facts hw3 HX2.out.1 HX2.out.2.1 HX2.out.2.2.1 HX2.out.2.2.2
    clear hw3 HN3 hs2
    have hlt3 := lt_of_heap hx3
    by_cases hwt : l.length < 8 + x + 4
    · have hwi : (l.length : Int) < 8 + (x : Int) + 4 := by omega
      have hR : recR l depth = .wait := by rw [HR1.out, if_neg hbig, if_pos hwt]
      have HRR := Lib.hid hR
      have HE := Lib.hid (fun W x0 x1 x2 x3 hW => four_set (W := W) hx3 x0 x1 x2 x3 hW)
      have HB3 := Lib.hid hb3
      have g0 := cell_row (cs := [_, _, _, _]) (j := 0) hx3 rfl
      have g1 := cell_row (cs := [_, _, _, _]) (j := 1) hx3 rfl
      have g2 := cell_row (cs := [_, _, _, _]) (j := 2) hx3 rfl
      have g3 := cell_row (cs := [_, _, _, _]) (j := 3) hx3 rfl
      have f0 := frozen_row (cs := [_, _, _, _]) hx3 0
      have f1 := frozen_row (cs := [_, _, _, _]) hx3 1
      have f2 := frozen_row (cs := [_, _, _, _]) hx3 2
      have f3 := frozen_row (cs := [_, _, _, _]) hx3 3
      clear hR hx3 hb3 hg3 hv3 HR1 hwt
      go_wp2
      obtain ⟨q1, q2, q3, q4⟩ := HE.out _ _ _ _ _ rfl
      refine bodyPost_ret (results_rec (g := w.heap.size) (cs := #[.int .i64 0, .slice none 0 0, .slice none 0 0, .slice none 0 0]) Tryd.results52 _ _ rfl rfl q1) rfl ?_
      exact ⟨[_, _, _, _], _, _, rfl, q4 _ _ (Nat.le_refl _) HB3.out, by rw [HRR.out]; exact ⟨zeroG _ _, rfl, rfl⟩⟩
    have hwi : ¬ (l.length : Int) < 8 + (x : Int) + 4 := by omega
    have hen : (8 + (x : Int)).toNat = 8 + x := by omega
    have p0 : ¬ c = 8 + x := by omega
    have p1 : ¬ 8 + (x : Int) < 0 := by omega
    have p2 : 8 + (x : Int) ≤ (l.length : Int) := by omega
    have p3 : 8 + (x : Int) ≤ (c : Int) := by omega
    have p4 : (0 : Int) ≤ 8 + (x : Int) := by omega
    have HN4 := Lib.hid (HSL.out (8 + x) (by omega))
    have HS4 := Lib.hid (HSM.out (8 + x) (by omega))
    have HX3 := Lib.hid (And.intro hx3 (And.intro hb3 (And.intro hg3 hv3)))
    clear hx3 hb3 hg3 hv3
    go_wp2_with fail
    go_quiet (first
      | (go_at_call 25
         refine (HS4.out _ ?_).mono ?_
         · exact HX3.out.2.2.2
         rintro e w' ⟨rfl, rfl⟩
         exact ⟨rfl, _, rfl⟩)
      | (go_at_call 65
         refine (HN4.out _ ?_).mono ?_
         · exact HX3.out.2.2.2
         rintro e w' ⟨rfl, k5, rfl⟩
         exact ⟨rfl, _, drewN_add _ _ _⟩)
      | fail)
    obtain ⟨w4, hw4⟩ : ∃ w4, w4 = w3.drewN nq := ⟨_, rfl⟩
    rw [← hw4]
    obtain ⟨hx4, hb4, hg4, hv4⟩ := drewN_facts hw4 HX3.out.1 HX3.out.2.1 HX3.out.2.2.1 HX3.out.2.2.2
    clear hw4 HN4 HS4
    have hlt4 := lt_of_heap hx4
    by_cases hsum : wd l (8 + x) 4 false = sumR (l.take (8 + x))
    · have HR2 : Hid (recR l depth = match parseR ((l.drop 8).take x) depth 65536 with
          | .error e => .bad (IntKind.i64.wrap (8 + e.1)) e.2
          | .ok y => .got y.1 (8 + x + 4)) := Lib.hid (by rw [HR1.out, if_neg hbig, if_neg hwt, if_neg (by simpa using hsum)])
      have hb8 : Bytes ok w4 (.slice (some ⟨b, o + 8, none⟩) x (c - 8)) ((l.drop 8).take x) := by
        have h := hv4.drop 8 (by omega)
        rw [← List.length_drop] at h
        exact h.take x (by rw [List.length_drop]; omega)
      have HP := Lib.hid (Parse_any depth 65536 w4 hb8)
      have HX4 := Lib.hid (And.intro hx4 (And.intro hb4 hg4))
      clear hx4 hb4 hg4 hv4 hb8 HR1
      rw [hsum]
      generalize sumR (l.take (8 + x)) = S
      clear hsum
      have p5 : ¬ c = 8 := by omega
      go_wp2_with fail
      refine HP.out.mono ?_
      rintro e w5 ⟨gv, ev, rfl, hb5, hr⟩
      generalize parseR ((l.drop 8).take x) depth 65536 = res at hr HR2
      obtain ⟨ki, A1, n1, c1, A2, n2, c2, A3, n3, c3, hgv⟩ : ∃ ki A1 n1 c1 A2 n2 c2 A3 n3 c3, gv = .agg #[.int .i64 ki, .slice A1 n1 c1, .slice A2 n2 c2, .slice A3 n3 c3] := by
        cases res with
        | error er => exact ⟨_, _, _, _, _, _, _, _, _, _, hr.1⟩
        | ok x =>
          obtain ⟨⟨cs, rfl, hg⟩, _⟩ := hr
          obtain ⟨_, _, _, _, _, _, _, _, _, _, rfl⟩ := geom_shape hg.1
          exact ⟨_, _, _, _, _, _, _, _, _, _, rfl⟩
      subst hgv
      obtain ⟨w6, hw6⟩ : ∃ w6, w6 = w5.alloc (.cells #[.int .i64 ki, .slice A1 n1 c1, .slice A2 n2 c2, .slice A3 n3 c3] 51) := ⟨_, rfl⟩
      obtain ⟨w7, hw7⟩ : ∃ w7, w7 = w6.alloc (.cells #[.pointer none] 87) := ⟨_, rfl⟩
      have hb6 : Below w5.heap.size w5 w6 := by rw [hw6]; exact (Below.refl _ w5).alloc (Nat.le_refl _) _
      have hn6 : w6.heap[w5.heap.size]? = some (.cells #[.int .i64 ki, .slice A1 n1 c1, .slice A2 n2 c2, .slice A3 n3 c3] 51 (0, 0)) := by rw [hw6]; exact World.alloc_heap_new _ _
      have hb7 : Below w6.heap.size w6 w7 := by rw [hw7]; exact (Below.refl _ w6).alloc (Nat.le_refl _) _
      have hz6 : w6.heap.size = w5.heap.size + 1 := by rw [hw6]; exact Array.size_push _
      have hv7 : w7.heap[w5.heap.size + 1]? = some (.cells #[.pointer none] 87 (0, 0)) := by rw [hw7, ← hz6]; exact World.alloc_heap_new _ _
      have hs5 := hb5.size
      have hs6 := lt_of_heap hn6
      have hs7 := lt_of_heap hv7
      have hn7 := (hb7.block _ hs6).trans hn6
      have hb57 : Below w5.heap.size w5 w7 := hb6.trans (hb7.mono hb6.size)
      have hb47 : Below w4.heap.size w4 w7 := hb5.trans (hb57.mono hs5)
      have hx7 := (hb47.block _ hlt4).trans HX4.out.1
      have hg7 := HX4.out.2.2.below hb47
      have hbw7 : Below w.heap.size w w7 := HX4.out.2.1.trans (hb47.mono (Nat.le_of_lt hlt4))
      go_upto_region 14 with (fail)
      rw [← hw6, ← hw7]
      clear hw6 hw7 HP
      cases res with
      | ok y =>
        obtain ⟨⟨cs, hcs, hgm⟩, rfl⟩ := hr
        obtain rfl : cs = [.int .i64 ki, .slice A1 n1 c1, .slice A2 n2 c2, .slice A3 n3 c3] := by simp only [Value.agg.injEq] at hcs; exact (List.toArray_inj hcs).symm
        have HRR : Hid (recR l depth = .got y.1 (8 + x + 4)) := HR2
        have HA := Lib.hid (as_nil (.iface 107 (.pointer (some ⟨w5.heap.size + 1, 0, none⟩))) w7)
        have HF7 := Lib.hid (fun W x0 x1 x2 x3 hW => four_set (W := W) hx7 x0 x1 x2 x3 hW)
        have g0 := cell_row (cs := [_, _, _, _]) (j := 0) hx7 rfl
        have g1 := cell_row (cs := [_, _, _, _]) (j := 1) hx7 rfl
        have g2 := cell_row (cs := [_, _, _, _]) (j := 2) hx7 rfl
        have g3 := cell_row (cs := [_, _, _, _]) (j := 3) hx7 rfl
        have f0 := frozen_row (cs := [_, _, _, _]) hx7 0
        have f1 := frozen_row (cs := [_, _, _, _]) hx7 1
        have f2 := frozen_row (cs := [_, _, _, _]) hx7 2
        have f3 := frozen_row (cs := [_, _, _, _]) hx7 3
        have y0 := cell_row (cs := [_, _, _, _]) (j := 0) hn7 rfl
        have y1 := cell_row (cs := [_, _, _, _]) (j := 1) hn7 rfl
        have y2 := cell_row (cs := [_, _, _, _]) (j := 2) hn7 rfl
        have y3 := cell_row (cs := [_, _, _, _]) (j := 3) hn7 rfl
        have HM := Lib.hid (And.intro hgm (And.intro hb57 hbw7))
        clear hn6 hb6 hb7 hv7 hn7 hb57 hb47 hx7 hg7 hbw7 hgm hb5 hz6
        go_wp2_with fail
        refine HA.out.mono ?_
        rintro e w' ⟨rfl, rfl⟩
        go_wp2
        obtain ⟨q1, q2, q3, q4⟩ := HF7.out _ _ _ _ _ rfl
        refine bodyPost_ret (results_rec (g := w.heap.size) (cs := #[.int .i64 ki, .slice A1 n1 c1, .slice A2 n2 c2, .slice A3 n3 c3]) Tryd.results52 _ _ rfl rfl q1) rfl ?_
        refine ⟨[_, _, _, _], _, _, rfl, q4 _ _ (Nat.le_refl _) HM.out.2.2, ?_⟩
        rw [HRR.out]
        refine ⟨?_, by omega, rfl⟩
        exact (HM.out.1.keeps fun b o hb ho _ => (q2 b (by omega)).trans ((HM.out.2.1.block b (lt_of_heap ho)).trans ho)).mono fun b _ hb => by omega
      | error er =>
        have HRR : Hid (recR l depth = .bad (IntKind.i64.wrap (8 + er.1)) er.2) := HR2
        obtain ⟨hgz, eb, rfl, heb, e0, e1⟩ := hr
        have hel := lt_of_cell e0
        have HA := Lib.hid (as_fault eb ⟨w5.heap.size + 1, 0, none⟩ (.pointer none) w7 hg7 (cell_row (cs := [_]) (j := 0) hv7 rfl) (frozen_row (cs := [_]) hv7 0))
        have HM := Lib.hid (And.intro hx7 (And.intro hv7 (And.intro hg7 (And.intro hbw7 (And.intro ((hb57.cell (p := ⟨eb, 0, none⟩) hel).trans e0) ((hb57.cell (p := ⟨eb, 1, none⟩) hel).trans e1))))))
        clear hn6 hb6 hb7 hv7 hn7 hb57 hb47 hx7 hg7 hbw7 hb5 hz6 e0 e1 hgz
        go_wp2_with fail
        refine HA.out.mono ?_
        rintro e w' ⟨rfl, w8, hb8, rfl⟩
        have hs8 := hb8.size
        obtain ⟨w9, hw9⟩ : ∃ w9, w9 = w8.setCell ⟨w5.heap.size + 1, 0, none⟩ (.pointer (some ⟨eb, 0, none⟩)) := ⟨_, rfl⟩
        rw [← hw9]
        have hset : ∀ b, b ≠ w5.heap.size + 1 → w9.heap[b]? = w8.heap[b]? := fun b hb => by rw [hw9]; exact Below.heap_setCell w8 ⟨w5.heap.size + 1, 0, none⟩ _ b hb
        have hs9 : w9.heap.size = w8.heap.size := by rw [hw9]; simp [World.setCell]
        have hv9 : w9.heap[w5.heap.size + 1]? = some (.cells #[.pointer (some ⟨eb, 0, none⟩)] 87 (0, 0)) := by
          have h := heap_store (cs := [_]) ((hb8.block _ (by omega)).trans HM.out.2.1) (j := 0) (.pointer (some ⟨eb, 0, none⟩))
          rw [hw9]; simpa using h
        have hx9 := (hset w.heap.size (by omega)).trans ((hb8.block _ (by omega)).trans HM.out.1)
        have hg9 : ErrT w9 := (World.cell?_of_block (w := w8) (a := ⟨0, 0, none⟩) (hset 0 (by omega))).trans (HM.out.2.2.1.below hb8)
        have e0 := (World.cell?_of_block (w := w8) (a := ⟨eb, 0, none⟩) (hset eb (by show eb ≠ _; omega))).trans ((hb8.cell (p := ⟨eb, 0, none⟩) (by show eb < _; omega)).trans HM.out.2.2.2.2.1)
        have e1 := (World.cell?_of_block (w := w8) (a := ⟨eb, 1, none⟩) (hset eb (by show eb ≠ _; omega))).trans ((hb8.cell (p := ⟨eb, 1, none⟩) (by show eb < _; omega)).trans HM.out.2.2.2.2.2)
        have hb9 : Below w.heap.size w w9 := by rw [hw9]; exact (HM.out.2.2.2.1.trans (hb8.mono (by omega))).setCell (show w.heap.size ≤ w5.heap.size + 1 by omega) _
        clear hw9 HA
        have HC := Lib.hid (fun W (hW : ErrT W) (h0 : W.cell? ⟨eb, 0, none⟩ = some (.int .i64 er.1)) (h1 : W.cell? ⟨eb, 1, none⟩ = some (.iface 22 (.int .i64 er.2))) => code_any (ok := fun _ => True) (some er) (.iface 87 (.pointer (some ⟨eb, 0, none⟩))) W hW ⟨eb, rfl, trivial, h0, h1⟩)
        have v9 := cell_row (cs := [_]) (j := 0) hv9 rfl
        have HV9 := Lib.hid (And.intro hx9 (And.intro hg9 (And.intro e0 (And.intro e1 (And.intro hb9 v9)))))
        have hlt9 := lt_of_heap hx9
        have hel9 := lt_of_cell e0
        have hvl9 := lt_of_cell v9
        clear e1 hg9 hx9 hb9 hset hv9
        go_upto_region 15 with (fail)
        go_region_law (
          (try go_simp)
          go_at_call 35
          refine (HC.out _ ?_ ?_ ?_).mono ?_
          · exact HV9.out.2.1
          · exact HV9.out.2.2.1
          · exact HV9.out.2.2.2.1
          rintro e w10 ⟨rfl, hb10⟩
          replace hb10 : Below w9.heap.size w9 w10 := by first | exact hb10 | exact below_drewB hb10 | exact below_drewB1 hb10
          have hx10 := (hb10.block _ hlt9).trans HV9.out.1
          have hlt10 := lt_of_heap hx10
          have e10 := (hb10.cell (p := ⟨eb, 0, none⟩) hel9).trans HV9.out.2.2.1
          have v10 := (hb10.cell (p := ⟨w5.heap.size + 1, 0, none⟩) hvl9).trans HV9.out.2.2.2.2.2
          have g0 := cell_row (cs := [_, _, _, _]) (j := 0) hx10 rfl
          have g1 := cell_row (cs := [_, _, _, _]) (j := 1) hx10 rfl
          have g2 := cell_row (cs := [_, _, _, _]) (j := 2) hx10 rfl
          have g3 := cell_row (cs := [_, _, _, _]) (j := 3) hx10 rfl
          have f0 := frozen_row (cs := [_, _, _, _]) hx10 0
          have f1 := frozen_row (cs := [_, _, _, _]) hx10 1
          have f2 := frozen_row (cs := [_, _, _, _]) hx10 2
          have f3 := frozen_row (cs := [_, _, _, _]) hx10 3
          have HE := Lib.hid (fun W hW => bad_end (W := W) hx10 (HV9.out.2.2.2.2.1.trans (hb10.mono (Nat.le_of_lt hlt9))) (IntKind.i64.wrap (8 + er.1)) (codeOf (some er)) hW)
          clear hb10 hx10)
        all_goals
          go_wp2
          obtain ⟨q1, q2, q3, q4⟩ := HE.out _ rfl
          refine bodyPost_ret (results_rec (g := w.heap.size) (cs := #[.int .i64 0, .slice none 0 0, .slice none 0 0, .slice none 0 0]) Tryd.results52 _ _ rfl rfl q2) rfl ?_
          exact ⟨[_, _, _, _], _, _, rfl, q1, by rw [HRR.out]; exact ⟨zeroG _ _, rfl, _, rfl, q4, q3⟩⟩
    · have hR : recR l depth = .bad (8 + x : Nat) 271 := by rw [HR1.out, if_neg hbig, if_neg hwt, if_pos hsum]
      have HRR := Lib.hid hR
      have HE := Lib.hid (fun W hW => bad_end (W := W) hx4 hb4 (8 + x) 271 hW)
      have hsi : ¬ ((wd l (8 + x) 4 false : Nat) : Int) = ((sumR (l.take (8 + x)) : Nat) : Int) := by omega
      generalize wd l (8 + x) 4 false = P at hsi ⊢
      generalize sumR (l.take (8 + x)) = S at hsi ⊢
      have g0 := cell_row (cs := [_, _, _, _]) (j := 0) hx4 rfl
      have g1 := cell_row (cs := [_, _, _, _]) (j := 1) hx4 rfl
      have g2 := cell_row (cs := [_, _, _, _]) (j := 2) hx4 rfl
      have g3 := cell_row (cs := [_, _, _, _]) (j := 3) hx4 rfl
      have f0 := frozen_row (cs := [_, _, _, _]) hx4 0
      have f1 := frozen_row (cs := [_, _, _, _]) hx4 1
      have f2 := frozen_row (cs := [_, _, _, _]) hx4 2
      have f3 := frozen_row (cs := [_, _, _, _]) hx4 3
      clear hR hx4 hb4 hg4 hv4 HR1 hsum
      go_wp2
      obtain ⟨q1, q2, q3, q4⟩ := HE.out _ rfl
      refine bodyPost_ret (results_rec (g := w.heap.size) (cs := #[.int .i64 0, .slice none 0 0, .slice none 0 0, .slice none 0 0]) Tryd.results52 _ _ rfl rfl q2) rfl ?_
      exact ⟨[_, _, _, _], _, _, rfl, q1, by rw [HRR.out]; exact ⟨zeroG _ _, rfl, _, rfl, q4, by simpa using q3⟩⟩
  · have hR : recR l depth = .bad 0 270 := by unfold recR; rw [if_neg h8, if_pos hm]
    rw [hR]
    have hmb : (!List.take 4 l == [80, 76, 77, 49]) = true := by
      have : (List.take 4 l == [80, 76, 77, 49]) = false := by
        cases h : (List.take 4 l == [80, 76, 77, 49])
        · rfl
        · exact (hm (by simpa [markB] using h)).elim
      rw [this]; rfl
    have HE := Lib.hid (fun W hW => bad_end (W := W) HX.out.2.1 HX.out.1 0 270 hW)
    clear hm
    go_wp2
    obtain ⟨q1, q2, q3, q4⟩ := HE.out _ rfl
    refine bodyPost_ret (results_rec (g := w.heap.size) (cs := #[.int .i64 0, .slice none 0 0, .slice none 0 0, .slice none 0 0]) Tryd.results52 _ _ rfl rfl q2) rfl ?_
    exact ⟨[_, _, _, _], _, _, rfl, q1, zeroG _ _, rfl, _, rfl, q4, q3⟩
end Go.Proofs.YtlffgepnhhnadaaDoor.Pl
