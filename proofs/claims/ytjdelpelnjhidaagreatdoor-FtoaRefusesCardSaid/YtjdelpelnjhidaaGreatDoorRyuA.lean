/- ryu: a pattern's parts; its interval by one denominator. -/
import Derived.Test.YtjdelpelnjhidaaGreatDoorRadC
import Derived.LoopN
namespace Go.Proofs.YtjdelpelnjhidaaGreatDoor.Pl
open Go.RowKit
/-- mantissa and exponent of two of a pattern without sign -/
def mantP (b : Nat) : Nat := if b / 4503599627370496 % 2048 = 0 then b % 4503599627370496 else 4503599627370496 + b % 4503599627370496
def expP (b : Nat) : Int := if b / 4503599627370496 % 2048 = 0 then -1074 else ((b / 4503599627370496 % 2048 : Nat) : Int) - 1075
def finP (b : Nat) : Prop := b / 4503599627370496 % 2048 ≠ 2047
theorem mantP_lt (b : Nat) : mantP b < 9007199254740992 := by unfold mantP; split <;> omega
theorem expP_lo (b : Nat) : -1074 ≤ expP b := by unfold expP; split <;> omega
theorem expP_hi {b : Nat} (h : finP b) : expP b ≤ 971 := by unfold finP at h; unfold expP; split <;> omega
theorem mantP_pos {b : Nat} (hb : b < 9223372036854775808) (h0 : b ≠ 0) : 0 < mantP b := by unfold mantP; split <;> omega
theorem hidden_or (f : Nat) (hf : f < 4503599627370496) : bits .or .u64 4503599627370496 (f : Int) = ((4503599627370496 + f : Nat) : Int) := by
  have h1 := u64_or_nat 4503599627370496 f (by decide) (by omega)
  refine (show bits .or .u64 4503599627370496 (f : Int) = bits .or .u64 ((4503599627370496 : Nat) : Int) (f : Int) from rfl).trans (h1.trans ?_)
  have h2 := Nat.shiftLeft_add_eq_or_of_lt (i := 52) (b := f) (by simpa using hf) 1
  have h3 : (1 : Nat) <<< 52 = 4503599627370496 := by decide
  rw [h3] at h2
  rw [h2]
theorem results_tmp4 {fn : Func} {t u v x : Tmp} (h : fn.results = #[.tmp t, .tmp u, .tmp v, .tmp x]) (tmps : Array Value) (P : Program) (w : World) :
    (results fn tmps).run P w = .ok (.tuple #[tmps.getD t undef, tmps.getD u undef, tmps.getD v undef, tmps.getD x undef]) w := by
  simp [results, h]
set_option maxRecDepth 100000 in
set_option maxHeartbeats 4000000 in
theorem split_any (b : Nat) (w : World) (hb : b < 18446744073709551616) (hf : finP b) : Calls Tryz.prog 67 #[.int .u64 b] w fun e w' => (∃ ng, e = .returned (.tuple #[.bool ng, .int .u64 (mantP b), .int .i64 (expP b), .int .i64 0])) ∧ w' = w := by
  have HF := fun w => Lib.hid (fields_any b w hb)
  have HC := fun w => Lib.hid (cls_any b w hb)
  unfold finP at hf
  unfold mantP expP
  obtain ⟨x, hx⟩ : ∃ x, x = b / 4503599627370496 % 2048 := ⟨_, rfl⟩
  obtain ⟨f, hff⟩ : ∃ f, f = b % 4503599627370496 := ⟨_, rfl⟩
  have hfl : f < 4503599627370496 := by omega
  have hxl : x < 2048 := by omega
  rw [← hx] at hf
  rw [← hx, ← hff]
  rw [← hx, ← hff] at HF
  unfold cls at HC
  rw [← hx, ← hff] at HC
  clear hx hff
  by_cases h0 : x = 0
  · subst h0
    rw [if_pos rfl, if_pos rfl]
    by_cases hz : f = 0
    · subst hz
      rw [if_pos rfl, if_pos rfl] at HC
      go_enter Tryz.func67, Tryz.ntmps67
      go_wp2_with (first
        | (go_at_call 33; refine (HF _).out.mono ?_; rintro e w1 ⟨rfl, hw1⟩; subst hw1)
        | (go_at_call 21; refine (HC _).out.mono ?_; rintro e w1 ⟨rfl, hw1⟩; subst hw1)
        | fail)
      refine bodyPost_ret (results_tmp4 rfl _ _ _) rfl ?_
      exact ⟨⟨_, rfl⟩, rfl⟩
    · rw [if_pos rfl, if_neg hz] at HC
      go_enter Tryz.func67, Tryz.ntmps67
      go_wp2_with (first
        | (go_at_call 33; refine (HF _).out.mono ?_; rintro e w1 ⟨rfl, hw1⟩; subst hw1)
        | (go_at_call 21; refine (HC _).out.mono ?_; rintro e w1 ⟨rfl, hw1⟩; subst hw1)
        | fail)
      refine bodyPost_ret (results_tmp4 rfl _ _ _) rfl ?_
      exact ⟨⟨_, rfl⟩, rfl⟩
  · rw [if_neg h0, if_neg h0]
    rw [if_neg h0, if_pos (by omega)] at HC
    have hor := hidden_or f hfl
    have hw : IntKind.i64.wrap ((x : Int) - 1075) = (x : Int) - 1075 := IntWalk.i64_in _ (by omega)
    go_enter Tryz.func67, Tryz.ntmps67
    go_wp2_with (first
      | (go_at_call 33; refine (HF _).out.mono ?_; rintro e w1 ⟨rfl, hw1⟩; subst hw1)
      | (go_at_call 21; refine (HC _).out.mono ?_; rintro e w1 ⟨rfl, hw1⟩; subst hw1)
      | fail)
    refine bodyPost_ret (results_tmp4 rfl _ _ _) rfl ?_
    exact ⟨⟨_, by rw [Int.natCast_add]; rfl⟩, rfl⟩
/-- a pattern's number and the ends of its interval, by one denominator -/
def IsSc (w : World) (v : Value) (low here high den : Nat) (ends : Bool) : Prop := ∃ a b c d, v = .agg #[a, b, c, d, .bool ends] ∧ Wx w a (ws low) ∧ Wx w b (ws here) ∧ Wx w c (ws high) ∧ Wx w d (ws den)
/-- how far below a number its interval ends, in quarters -/
def belowP (b : Nat) : Nat := if mantP b = 4503599627370496 ∧ -1074 < expP b then 1 else 2
theorem Tryz.infoSc : (Tryz.prog.info? 129).map (·.size) = some 5 := by kernel_rfl
theorem five_cells {w : World} {R t : Nat} {v0 v1 v2 v3 v4 : Value} (hR : w.heap[R]? = some (.cells #[v0, v1, v2, v3, v4] t (0, 0))) : w.cell? ⟨R, 0, none⟩ = some v0 ∧ w.cell? ⟨R, 1, none⟩ = some v1 ∧ w.cell? ⟨R, 2, none⟩ = some v2 ∧ w.cell? ⟨R, 3, none⟩ = some v3 ∧ w.cell? ⟨R, 4, none⟩ = some v4 ∧ ∀ i, w.frozen? ⟨R, i, none⟩ = false :=
  ⟨cell_of_row w R 0 _ _ _ hR, cell_of_row w R 1 _ _ _ hR, cell_of_row w R 2 _ _ _ hR, cell_of_row w R 3 _ _ _ hR, cell_of_row w R 4 _ _ _ hR, fun i => frozen_of_row w R i _ _ hR⟩
theorem five_set {w : World} {R t : Nat} {v0 v1 v2 v3 v4 : Value} (hR : w.heap[R]? = some (.cells #[v0, v1, v2, v3, v4] t (0, 0))) (a b c d e : Value) :
    (((((w.setCell ⟨R, 0, none⟩ a).setCell ⟨R, 1, none⟩ b).setCell ⟨R, 2, none⟩ c).setCell ⟨R, 3, none⟩ d).setCell ⟨R, 4, none⟩ e).heap[R]? = some (.cells #[a, b, c, d, e] t (0, 0)) :=
  heap_setCell_same _ R 4 _ t e (heap_setCell_same _ R 3 _ t d (heap_setCell_same _ R 2 _ t c (heap_setCell_same _ R 1 _ t b (heap_setCell_same w R 0 _ t a hR))))
theorem below_five {B R : Nat} {w0 w : World} (h : Below B w0 w) (hB : B ≤ R) (a b c d e : Value) : Below B w0 (((((w.setCell ⟨R, 0, none⟩ a).setCell ⟨R, 1, none⟩ b).setCell ⟨R, 2, none⟩ c).setCell ⟨R, 3, none⟩ d).setCell ⟨R, 4, none⟩ e) :=
  ((((h.setCell (by exact hB) a).setCell (by exact hB) b).setCell (by exact hB) c).setCell (by exact hB) d).setCell (by exact hB) e
def isIntV : Value → Bool
  | .int _ _ => true
  | _ => false
/-- words do not lie in a row without numbers: what turns in two such rows alone keeps them -/
theorem Wd.after {w w' : World} {v : Value} {l : List Nat} {R S t t' : Nat} {cs cs' : Array Value} (h : Wx w v l) (hR : w.heap[R]? = some (.cells cs t (0, 0))) (hS : w.heap[S]? = some (.cells cs' t' (0, 0))) (hcs : cs.toList.all (fun c => !isIntV c) = true) (hcs' : cs'.toList.all (fun c => !isIntV c) = true) (hk : ∀ b, b ≠ R → b ≠ S → w'.heap[b]? = w.heap[b]?) : Wx w' v l := by
  obtain ⟨hw, A, c, rfl, hc, hl, hr⟩ := h
  refine ⟨hw, A, c, rfl, hc, hl, ?_⟩
  rcases hr with hr | ⟨b, o, rfl, _, hx⟩
  · exact .inl hr
  · cases l with
    | nil => exact .inl rfl
    | cons x l =>
      have h0 := hx 0 (uv x) rfl
      have key : ∀ {Z tz : Nat} {cz : Array Value}, w.heap[Z]? = some (.cells cz tz (0, 0)) → cz.toList.all (fun c => !isIntV c) = true → b ≠ Z := by
        intro Z tz cz hZ hall e
        subst e
        rw [cell_of_row w b (o + 0) _ _ _ hZ] at h0
        have hm : uv x ∈ cz.toList := by
          rw [Array.mem_toList_iff]
          exact Array.mem_of_getElem? h0
        have := List.all_eq_true.1 hall _ hm
        simp [uv, isIntV] at this
      have hbR := key hR hcs
      have hbS := key hS hcs'
      exact .inr ⟨b, o, rfl, trivial, fun i u hu => (World.cell?_of_block (w := w) (hk b hbR hbS)).trans (hx i u hu)⟩
theorem five_other {w : World} {R k : Nat} (a b c d e : Value) (hk : k ≠ R) : (((((w.setCell ⟨R, 0, none⟩ a).setCell ⟨R, 1, none⟩ b).setCell ⟨R, 2, none⟩ c).setCell ⟨R, 3, none⟩ d).setCell ⟨R, 4, none⟩ e).heap[k]? = w.heap[k]? := by
  rw [heap_setCell_other _ ⟨R, 4, none⟩ k e hk, heap_setCell_other _ ⟨R, 3, none⟩ k d hk, heap_setCell_other _ ⟨R, 2, none⟩ k c hk, heap_setCell_other _ ⟨R, 1, none⟩ k b hk, heap_setCell_other _ ⟨R, 0, none⟩ k a hk]
theorem below2 {a b c : World} (h1 : Below a.heap.size a b) (h2 : Below b.heap.size b c) : Below a.heap.size a c := h1.trans (h2.mono h1.size)
theorem below3 {a b c d : World} (h1 : Below a.heap.size a b) (h2 : Below b.heap.size b c) (h3 : Below c.heap.size c d) : Below a.heap.size a d := below2 h1 (below2 h2 h3)
theorem below4 {a b c d e : World} (h1 : Below a.heap.size a b) (h2 : Below b.heap.size b c) (h3 : Below c.heap.size c d) (h4 : Below d.heap.size d e) : Below a.heap.size a e := below2 h1 (below3 h2 h3 h4)
theorem Wd.form {ok : Nat → Prop} {w : World} {v : Value} {l : List Nat} (h : Wd ok w v l) : ∃ A n c, v = .slice A n c := by
  obtain ⟨_, A, c, rfl, _⟩ := h
  exact ⟨A, _, c, rfl⟩
set_option maxRecDepth 100000 in
set_option maxHeartbeats 8000000 in
theorem interval_any (b : Nat) (w : World) (hb : b < 9223372036854775808) (h0 : b ≠ 0) (hf : finP b) : Calls Tryz.prog 94 #[.int .u64 b] w fun e w' => (∃ v, e = .returned v ∧
      IsSc w' v ((4 * mantP b - belowP b) * 2 ^ (expP b - 2).toNat) (4 * mantP b * 2 ^ (expP b - 2).toNat) ((4 * mantP b + 2) * 2 ^ (expP b - 2).toNat) (2 ^ (-(expP b - 2)).toNat) (b % 2 == 0)) ∧ Below w.heap.size w w' := by
  have HSP := fun w => Lib.hid (split_any b w (by omega) hf)
  have hml := mantP_lt b
  have hmp := mantP_pos hb h0
  have hel := expP_lo b
  have heh := expP_hi hf
  obtain ⟨bw, hbw⟩ : ∃ x, x = belowP b := ⟨_, rfl⟩
  have hbw2 : bw = 1 ∨ bw = 2 := by rw [hbw]; unfold belowP; split <;> omega
  rw [← hbw]
  unfold belowP at hbw
  obtain ⟨m, hm⟩ : ∃ x, x = mantP b := ⟨_, rfl⟩
  obtain ⟨x, hx⟩ : ∃ x, x = expP b := ⟨_, rfl⟩
  rw [← hm] at hml hmp hbw
  rw [← hx] at hel heh hbw
  rw [← hm, ← hx] at HSP
  rw [← hm, ← hx]
  have hand : bits .and .u64 (b : Int) 1 = ((b % 2 : Nat) : Int) := (bits_mask .u64 64 (by decide) wraps_u64 1 (by decide) (b : Int) (by omega) (by omega)).trans (by omega)
  obtain ⟨ev, hev⟩ : ∃ x, x = (b % 2 == 0) := ⟨_, rfl⟩
  have hevi : ((b : Int) % 2 == 0) = ev := by
    rw [hev, show (b : Int) % 2 = ((b % 2 : Nat) : Int) from rfl]
    rcases Nat.mod_two_eq_zero_or_one b with h | h <;> rw [h] <;> rfl
  rw [← hev]
  clear hm hx hev
  obtain ⟨M4, hM4⟩ : ∃ k, k = 4 * m := ⟨_, rfl⟩
  obtain ⟨L4, hL4⟩ : ∃ k, k = 4 * m - bw := ⟨_, rfl⟩
  obtain ⟨U4, hU4⟩ : ∃ k, k = 4 * m + 2 := ⟨_, rfl⟩
  have e1 : IntKind.u64.wrap (4 * (m : Int)) = (M4 : Int) := by simp only [IntKind.wrap_u64]; omega
  have e3 : IntKind.u64.wrap ((M4 : Int) + 2) = (U4 : Int) := by simp only [IntKind.wrap_u64]; omega
  have hM4b : M4 < 72057594037927936 := by omega
  have hL4b : L4 < 72057594037927936 := by omega
  have hU4b : U4 < 72057594037927936 := by omega
  have HF1 := fun w => Lib.hid (from_any L4 w (by omega))
  have HF2 := fun w => Lib.hid (from_any M4 w (by omega))
  have HF3 := fun w => Lib.hid (from_any U4 w (by omega))
  have HF4 := fun w => Lib.hid (from_any 1 w (by decide))
  rw [← hU4, ← hL4, ← hM4]
  obtain ⟨y, hy⟩ : ∃ y, y = x - 2 := ⟨_, rfl⟩
  rw [← hy]
  have e4 : IntKind.i64.wrap (x - 2) = y := by rw [← hy]; exact IntWalk.i64_in _ (by omega)
  have hyl : -1076 ≤ y := by omega
  have hyh : y ≤ 969 := by omega
  have hcase : (m = 4503599627370496 ∧ -1074 < x ∧ IntKind.u64.wrap ((M4 : Int) - 1) = (L4 : Int)) ∨ (m = 4503599627370496 ∧ x ≤ -1074 ∧ IntKind.u64.wrap ((M4 : Int) - 2) = (L4 : Int)) ∨ (m ≠ 4503599627370496 ∧ IntKind.u64.wrap ((M4 : Int) - 2) = (L4 : Int)) := by
    simp only [IntKind.wrap_u64]
    by_cases h1 : m = 4503599627370496
    · by_cases h2 : -1074 < x
      · rw [if_pos ⟨h1, h2⟩] at hbw
        exact .inl ⟨h1, h2, by omega⟩
      · rw [if_neg (fun h => h2 h.2)] at hbw
        exact .inr (.inl ⟨h1, by omega, by omega⟩)
    · rw [if_neg (fun h => h1 h.1)] at hbw
      exact .inr (.inr ⟨h1, by omega⟩)
  clear hM4 hL4 hU4 hbw hbw2 hy hml hmp
  have hcase2 : (((m : Int) == 4503599627370496) = true ∧ -1074 < x ∧ IntKind.u64.wrap ((M4 : Int) - 1) = (L4 : Int)) ∨ (((m : Int) == 4503599627370496) = true ∧ x ≤ -1074 ∧ IntKind.u64.wrap ((M4 : Int) - 2) = (L4 : Int)) ∨ (((m : Int) == 4503599627370496) = false ∧ True ∧ IntKind.u64.wrap ((M4 : Int) - 2) = (L4 : Int)) := by
    rcases hcase with ⟨h1, h2, h3⟩ | ⟨h1, h2, h3⟩ | ⟨h1, h3⟩
    · exact .inl ⟨by rw [h1]; rfl, h2, h3⟩
    · exact .inr (.inl ⟨by rw [h1]; rfl, h2, h3⟩)
    · exact .inr (.inr ⟨by simp; omega, trivial, h3⟩)
  clear hcase
  rcases hcase2 with ⟨g1, h2, h3⟩ | ⟨g1, h2, h3⟩ | ⟨g1, h2, h3⟩
  all_goals
    go_enter Tryz.func94, Tryz.ntmps94
    go_wp2_with (first
      | (go_at_call 67; refine (HSP _).out.mono ?_; rintro e w1 ⟨⟨ng, rfl⟩, hw1⟩; subst hw1)
      | (go_at_call_of 110 (Value.int .u64 (L4 : Int)); refine (HF1 _).out.mono ?_; rintro e w1 ⟨⟨z1, rfl, hz1⟩, hb1⟩; obtain ⟨A1, n1, c1, rfl⟩ := hz1.form)
      | (go_at_call_of 110 (Value.int .u64 (M4 : Int)); refine (HF2 _).out.mono ?_; rintro e w2 ⟨⟨z2, rfl, hz2⟩, hb2⟩; obtain ⟨A2, n2, c2, rfl⟩ := hz2.form)
      | (go_at_call_of 110 (Value.int .u64 (U4 : Int)); refine (HF3 _).out.mono ?_; rintro e w3 ⟨⟨z3, rfl, hz3⟩, hb3⟩; obtain ⟨A3, n3, c3, rfl⟩ := hz3.form)
      | (go_at_call 110; refine (HF4 _).out.mono ?_; rintro e w4 ⟨⟨z4, rfl, hz4⟩, hb4⟩; obtain ⟨A4, n4, c4, rfl⟩ := hz4.form)
      | fail)
    all_goals (have hA := below4 hb1 hb2 hb3 hb4; have hRr := (hA.block w.heap.size (by simp)).trans (World.alloc_heap_new w _); have hBW := ((Below.refl w.heap.size w).alloc (Nat.le_refl _) _).trans (hA.mono (by simp)))
    all_goals (have hwR := lt_of_heap hRr; have hS1 := hz1.below (below3 hb2 hb3 hb4); have hS2 := hz2.below (below2 hb3 hb4); have hS3 := hz3.below hb4; clear hb1 hb2 hb3 hb4 hz1 hz2 hz3 hA)
    all_goals first
      | (
      have hneg : y < 0 := by assumption
      obtain ⟨d, rfl⟩ : ∃ d : Nat, y = -(d : Int) := ⟨(-y).toNat, by omega⟩
      rw [Int.neg_neg]
      have hsh := shl_any (.slice A4 n4 c4) (ws 1) d (w4.alloc (.cells #[.slice A1 n1 c1, .slice A2 n2 c2, .slice A3 n3 c3, .slice A4 n4 c4, .bool ev] 129 (0, 0))) (hz4.below ((Below.refl _ _).alloc (Nat.le_refl _) _)) (by have := ws_len_bits (n := 1) (k := 1) (by decide); omega) (by rw [val_ws, show bl 1 = 1 by decide]; omega)
      rw [val_ws, Nat.one_mul] at hsh
      refine hsh.mono ?_
      rintro e w6 ⟨⟨z5, rfl, hz5⟩, hb6⟩
      obtain ⟨A5, n5, c5, rfl⟩ := hz5.form
      have hS6 := (hb6.block w4.heap.size (by simp)).trans (World.alloc_heap_new w4 _)
      have hR6 := (hb6.block w.heap.size (by simp; omega)).trans ((Below.heap_alloc w4 _ _ hwR).trans hRr)
      have hne : ¬ w.heap.size = w4.heap.size := by omega
      have hne2 : ¬ w4.heap.size = w.heap.size := by omega
      have s0 := cell_of_row w6 w4.heap.size 0 _ _ _ hS6
      have s1 := cell_of_row w6 w4.heap.size 1 _ _ _ hS6
      have s2 := cell_of_row w6 w4.heap.size 2 _ _ _ hS6
      have s3 := cell_of_row w6 w4.heap.size 3 _ _ _ hS6
      have s4 := cell_of_row w6 w4.heap.size 4 _ _ _ hS6
      have r0 := cell_of_row w6 w.heap.size 0 _ _ _ hR6
      have r1 := cell_of_row w6 w.heap.size 1 _ _ _ hR6
      have r2 := cell_of_row w6 w.heap.size 2 _ _ _ hR6
      have r3 := cell_of_row w6 w.heap.size 3 _ _ _ hR6
      have r4 := cell_of_row w6 w.heap.size 4 _ _ _ hR6
      have fs := fun i => frozen_of_row w6 w4.heap.size i _ _ hS6
      have fr := fun i => frozen_of_row w6 w.heap.size i _ _ hR6
      simp only [List.getElem?_toArray, List.getElem?_cons_zero, List.getElem?_cons_succ] at s0 s1 s2 s3 s4 r0 r1 r2 r3 r4
      go_wp2_with fail
      have hfin := five_set (w := w6.setCell ⟨w4.heap.size, 3, none⟩ (.slice A5 n5 c5)) ((heap_setCell_other w6 ⟨w4.heap.size, 3, none⟩ w.heap.size _ hne).trans hR6) (.slice A1 n1 c1) (.slice A2 n2 c2) (.slice A3 n3 c3) (.slice A5 n5 c5) (.bool ev)
      have hb7 : Below w.heap.size w w6 := hBW.trans (((Below.refl w4.heap.size w4).alloc (Nat.le_refl _) _).mono hBW.size |>.trans (hb6.mono (by simp; omega)))
      refine bodyPost_ret (results_cell_row (p := 2) (ty := 129) Tryz.results94 _ _ w.heap.size _ _ _ _ rfl hfin Tryz.underlying129 rfl Tryz.infoSc) rfl ?_
      have hkp : ∀ k, k ≠ w.heap.size → k ≠ w4.heap.size → ((((((w6.setCell ⟨w4.heap.size, 3, none⟩ (.slice A5 n5 c5)).setCell ⟨w.heap.size, 0, none⟩ (.slice A1 n1 c1)).setCell ⟨w.heap.size, 1, none⟩ (.slice A2 n2 c2)).setCell ⟨w.heap.size, 2, none⟩ (.slice A3 n3 c3)).setCell ⟨w.heap.size, 3, none⟩ (.slice A5 n5 c5)).setCell ⟨w.heap.size, 4, none⟩ (.bool ev)).heap[k]? = w6.heap[k]? := fun k h1 h2 => by
        rw [five_other _ _ _ _ _ h1, heap_setCell_other w6 ⟨w4.heap.size, 3, none⟩ k _ h2]
      have h46 : Below w4.heap.size w4 w6 := ((Below.refl w4.heap.size w4).alloc (Nat.le_refl _) _).trans (hb6.mono (by simp))
      have hd0 : (-(d : Int)).toNat = 0 := by omega
      refine ⟨⟨_, rfl, _, _, _, _, rfl, ?_, ?_, ?_, ?_⟩, below_five (hb7.setCell (by exact Nat.le_of_lt hwR) _) (Nat.le_refl _) _ _ _ _ _⟩
      · rw [hd0, Nat.pow_zero, Nat.mul_one]; exact (hS1.below h46).after hR6 hS6 rfl rfl hkp
      · rw [hd0, Nat.pow_zero, Nat.mul_one]; exact (hS2.below h46).after hR6 hS6 rfl rfl hkp
      · rw [hd0, Nat.pow_zero, Nat.mul_one]; exact (hS3.below h46).after hR6 hS6 rfl rfl hkp
      · rw [Int.neg_neg, Int.toNat_natCast]; exact hz5.after hR6 hS6 rfl rfl hkp)
      | (
      have hpos : 0 ≤ y := by assumption
      obtain ⟨d, rfl⟩ : ∃ d : Nat, y = (d : Int) := ⟨y.toNat, by omega⟩
      obtain ⟨S, hSS⟩ : ∃ S, S = w4.heap.size := ⟨_, rfl⟩
      have hP5 := World.alloc_heap_new (w4.alloc (.cells #[.slice A1 n1 c1, .slice A2 n2 c2, .slice A3 n3 c3, .slice A4 n4 c4, .bool ev] 129 (0, 0))) (.cells #[.pointer (some ⟨w4.heap.size, 0, none⟩), .pointer (some ⟨w4.heap.size, 1, none⟩), .pointer (some ⟨w4.heap.size, 2, none⟩)] 146 (0, 0))
      rw [World.size_alloc] at hP5
      have hS5 := (Below.heap_alloc (w4.alloc (.cells #[.slice A1 n1 c1, .slice A2 n2 c2, .slice A3 n3 c3, .slice A4 n4 c4, .bool ev] 129 (0, 0))) (.cells #[.pointer (some ⟨w4.heap.size, 0, none⟩), .pointer (some ⟨w4.heap.size, 1, none⟩), .pointer (some ⟨w4.heap.size, 2, none⟩)] 146 (0, 0)) w4.heap.size (by simp)).trans (World.alloc_heap_new w4 _)
      have hB5 := (((Below.refl w4.heap.size w4).alloc (Nat.le_refl _) (.cells #[.slice A1 n1 c1, .slice A2 n2 c2, .slice A3 n3 c3, .slice A4 n4 c4, .bool ev] 129 (0, 0))).alloc (by simp) (.cells #[.pointer (some ⟨w4.heap.size, 0, none⟩), .pointer (some ⟨w4.heap.size, 1, none⟩), .pointer (some ⟨w4.heap.size, 2, none⟩)] 146 (0, 0)))
      have hbL : bl L4 ≤ 56 := bl_le_iff.2 (by omega)
      have hbM : bl M4 ≤ 56 := bl_le_iff.2 (by omega)
      have hbU : bl U4 ≤ 56 := bl_le_iff.2 (by omega)
      have q1 := hS1.below hB5
      have q2 := hS2.below hB5
      have q3 := hS3.below hB5
      have q4 := hz4.below hB5
      rw [← hSS] at hP5 hS5 hB5 hwR q1 q2 q3 q4 ⊢
      have HSS := Lib.hid hSS
      clear hSS hS1 hS2 hS3 hz4
      go_loopw [60] (fun i wr => ∃ (k : Nat) (A1 A2 A3 : Option Addr) (n1 n2 n3 c1 c2 c3 : Nat), i = .int .i64 k ∧ k ≤ 3 ∧ Hid (wr.heap[S]? = some (.cells #[.slice A1 n1 c1, .slice A2 n2 c2, .slice A3 n3 c3, .slice A4 n4 c4, .bool ev] 129 (0, 0))) ∧
        Hid (wr.heap[S + 1]? = some (.cells #[.pointer (some ⟨S, 0, none⟩), .pointer (some ⟨S, 1, none⟩), .pointer (some ⟨S, 2, none⟩)] 146 (0, 0))) ∧ Wx wr (.slice A1 n1 c1) (ws (L4 * 2 ^ (if 0 < k then d else 0))) ∧ Wx wr (.slice A2 n2 c2) (ws (M4 * 2 ^ (if 1 < k then d else 0))) ∧ Wx wr (.slice A3 n3 c3) (ws (U4 * 2 ^ (if 2 < k then d else 0))) ∧ Wx wr (.slice A4 n4 c4) (ws 1) ∧ Below S w4 wr) (fun i _ => 3 - (intOf i).toNat)
      case atStart => exact ⟨0, A1, A2, A3, n1, n2, n3, c1, c2, c3, rfl, by omega, Lib.hid hS5, Lib.hid hP5, by rw [if_neg (by omega), Nat.pow_zero, Nat.mul_one]; exact q1, by rw [if_neg (by omega), Nat.pow_zero, Nat.mul_one]; exact q2, by rw [if_neg (by omega), Nat.pow_zero, Nat.mul_one]; exact q3, q4, hB5⟩
      case round =>
        clear hS5 hP5 hB5 q1 q2 q3 q4
        obtain ⟨k, a1, a2, a3, m1, m2, m3, k1, k2, k3, rfl, hk, hS, hP, h1, h2, h3, h4, hbel⟩ := hrel
        rcases (by omega : k = 0 ∨ k = 1 ∨ k = 2 ∨ k = 3) with rfl | rfl | rfl | rfl
        · have hin := h1
          rw [if_neg (by omega), Nat.pow_zero, Nat.mul_one] at hin
          have hsh := Lib.hid (shl_any (.slice a1 m1 k1) (ws L4) d wr hin (by have := ws_len_bits (n := L4) (k := 1) (by omega); omega) (by rw [val_ws]; omega))
          rw [val_ws] at hsh
          obtain ⟨s0, s1, s2, s3, s4, fs⟩ := five_cells hS.out
          have p0 : wr.cell? ⟨S + 1, 0, none⟩ = some (.pointer (some ⟨S, 0, none⟩)) := cell_of_row wr (S + 1) 0 _ _ _ hP.out
          go_wp2_with (first
            | (go_at_call 100; refine hsh.out.mono ?_; rintro e w6 ⟨⟨z5, rfl, hz5⟩, hb6⟩; obtain ⟨A5, n5, c5, rfl⟩ := hz5.form; have hS6 := (hb6.block S (lt_of_heap hS.out)).trans hS.out; have hP6 := (hb6.block (S + 1) (lt_of_heap hP.out)).trans hP.out; obtain ⟨t0, t1, t2, t3, t4, ft⟩ := five_cells hS6)
            | fail)
          have hkp : ∀ k, k ≠ S → k ≠ S → (w6.setCell ⟨S, 0, none⟩ (.slice A5 n5 c5)).heap[k]? = w6.heap[k]? := fun k h1 _ => heap_setCell_other w6 ⟨S, 0, none⟩ k _ h1
          go_roundw
          case rel =>
            exact ⟨1, A5, a2, a3, n5, m2, m3, c5, k2, k3, by go_num, by omega, Lib.hid (heap_setCell_same w6 S 0 _ _ _ hS6), Lib.hid ((heap_setCell_other w6 ⟨S, 0, none⟩ (S + 1) _ (by simp)).trans hP6), by rw [if_pos (by omega)]; exact hz5.after hS6 hS6 rfl rfl hkp, by first | (rw [if_pos (by omega)]; rw [if_pos (by omega)] at h2; exact (h2.below hb6).after hS6 hS6 rfl rfl hkp) | (rw [if_neg (by omega)]; rw [if_neg (by omega)] at h2; exact (h2.below hb6).after hS6 hS6 rfl rfl hkp), by first | (rw [if_pos (by omega)]; rw [if_pos (by omega)] at h3; exact (h3.below hb6).after hS6 hS6 rfl rfl hkp) | (rw [if_neg (by omega)]; rw [if_neg (by omega)] at h3; exact (h3.below hb6).after hS6 hS6 rfl rfl hkp), (h4.below hb6).after hS6 hS6 rfl rfl hkp, (hbel.trans (hb6.mono (Nat.le_of_lt (lt_of_heap hS.out)))).setCell (by exact Nat.le_refl _) _⟩
          case measure => simp [intOf]
        · have hin := h2
          rw [if_neg (by omega), Nat.pow_zero, Nat.mul_one] at hin
          have hsh := Lib.hid (shl_any (.slice a2 m2 k2) (ws M4) d wr hin (by have := ws_len_bits (n := M4) (k := 1) (by omega); omega) (by rw [val_ws]; omega))
          rw [val_ws] at hsh
          obtain ⟨s0, s1, s2, s3, s4, fs⟩ := five_cells hS.out
          have p0 : wr.cell? ⟨S + 1, 1, none⟩ = some (.pointer (some ⟨S, 1, none⟩)) := cell_of_row wr (S + 1) 1 _ _ _ hP.out
          go_wp2_with (first
            | (go_at_call 100; refine hsh.out.mono ?_; rintro e w6 ⟨⟨z5, rfl, hz5⟩, hb6⟩; obtain ⟨A5, n5, c5, rfl⟩ := hz5.form; have hS6 := (hb6.block S (lt_of_heap hS.out)).trans hS.out; have hP6 := (hb6.block (S + 1) (lt_of_heap hP.out)).trans hP.out; obtain ⟨t0, t1, t2, t3, t4, ft⟩ := five_cells hS6)
            | fail)
          have hkp : ∀ k, k ≠ S → k ≠ S → (w6.setCell ⟨S, 1, none⟩ (.slice A5 n5 c5)).heap[k]? = w6.heap[k]? := fun k h1 _ => heap_setCell_other w6 ⟨S, 1, none⟩ k _ h1
          go_roundw
          case rel =>
            exact ⟨2, a1, A5, a3, m1, n5, m3, k1, c5, k3, by go_num, by omega, Lib.hid (heap_setCell_same w6 S 1 _ _ _ hS6), Lib.hid ((heap_setCell_other w6 ⟨S, 1, none⟩ (S + 1) _ (by simp)).trans hP6), by first | (rw [if_pos (by omega)]; rw [if_pos (by omega)] at h1; exact (h1.below hb6).after hS6 hS6 rfl rfl hkp) | (rw [if_neg (by omega)]; rw [if_neg (by omega)] at h1; exact (h1.below hb6).after hS6 hS6 rfl rfl hkp), by rw [if_pos (by omega)]; exact hz5.after hS6 hS6 rfl rfl hkp, by first | (rw [if_pos (by omega)]; rw [if_pos (by omega)] at h3; exact (h3.below hb6).after hS6 hS6 rfl rfl hkp) | (rw [if_neg (by omega)]; rw [if_neg (by omega)] at h3; exact (h3.below hb6).after hS6 hS6 rfl rfl hkp), (h4.below hb6).after hS6 hS6 rfl rfl hkp, (hbel.trans (hb6.mono (Nat.le_of_lt (lt_of_heap hS.out)))).setCell (by exact Nat.le_refl _) _⟩
          case measure => simp [intOf]
        · have hin := h3
          rw [if_neg (by omega), Nat.pow_zero, Nat.mul_one] at hin
          have hsh := Lib.hid (shl_any (.slice a3 m3 k3) (ws U4) d wr hin (by have := ws_len_bits (n := U4) (k := 1) (by omega); omega) (by rw [val_ws]; omega))
          rw [val_ws] at hsh
          obtain ⟨s0, s1, s2, s3, s4, fs⟩ := five_cells hS.out
          have p0 : wr.cell? ⟨S + 1, 2, none⟩ = some (.pointer (some ⟨S, 2, none⟩)) := cell_of_row wr (S + 1) 2 _ _ _ hP.out
          go_wp2_with (first
            | (go_at_call 100; refine hsh.out.mono ?_; rintro e w6 ⟨⟨z5, rfl, hz5⟩, hb6⟩; obtain ⟨A5, n5, c5, rfl⟩ := hz5.form; have hS6 := (hb6.block S (lt_of_heap hS.out)).trans hS.out; have hP6 := (hb6.block (S + 1) (lt_of_heap hP.out)).trans hP.out; obtain ⟨t0, t1, t2, t3, t4, ft⟩ := five_cells hS6)
            | fail)
          have hkp : ∀ k, k ≠ S → k ≠ S → (w6.setCell ⟨S, 2, none⟩ (.slice A5 n5 c5)).heap[k]? = w6.heap[k]? := fun k h1 _ => heap_setCell_other w6 ⟨S, 2, none⟩ k _ h1
          go_roundw
          case rel =>
            exact ⟨3, a1, a2, A5, m1, m2, n5, k1, k2, c5, by go_num, by omega, Lib.hid (heap_setCell_same w6 S 2 _ _ _ hS6), Lib.hid ((heap_setCell_other w6 ⟨S, 2, none⟩ (S + 1) _ (by simp)).trans hP6), by first | (rw [if_pos (by omega)]; rw [if_pos (by omega)] at h1; exact (h1.below hb6).after hS6 hS6 rfl rfl hkp) | (rw [if_neg (by omega)]; rw [if_neg (by omega)] at h1; exact (h1.below hb6).after hS6 hS6 rfl rfl hkp), by first | (rw [if_pos (by omega)]; rw [if_pos (by omega)] at h2; exact (h2.below hb6).after hS6 hS6 rfl rfl hkp) | (rw [if_neg (by omega)]; rw [if_neg (by omega)] at h2; exact (h2.below hb6).after hS6 hS6 rfl rfl hkp), by rw [if_pos (by omega)]; exact hz5.after hS6 hS6 rfl rfl hkp, (h4.below hb6).after hS6 hS6 rfl rfl hkp, (hbel.trans (hb6.mono (Nat.le_of_lt (lt_of_heap hS.out)))).setCell (by exact Nat.le_refl _) _⟩
          case measure => simp [intOf]
        · rw [if_pos (by omega)] at h1 h2 h3
          have hR6 := (hbel.block w.heap.size hwR).trans hRr
          obtain ⟨s0, s1, s2, s3, s4, fs⟩ := five_cells hS.out
          obtain ⟨r0, r1, r2, r3, r4, fr⟩ := five_cells hR6
          have hne : ¬ w.heap.size = S := by omega
          have hne2 : ¬ S = w.heap.size := by omega
          go_wp2_with fail
          have hfin := five_set hR6 (.slice a1 m1 k1) (.slice a2 m2 k2) (.slice a3 m3 k3) (.slice A4 n4 c4) (.bool ev)
          refine bodyPost_ret (results_cell_row (p := 2) (ty := 129) Tryz.results94 _ _ w.heap.size _ _ _ _ rfl hfin Tryz.underlying129 rfl Tryz.infoSc) rfl ?_
          have hd0 : (-(d : Int)).toNat = 0 := by omega
          have hkp : ∀ k, k ≠ w.heap.size → k ≠ S → (((((wr.setCell ⟨w.heap.size, 0, none⟩ (.slice a1 m1 k1)).setCell ⟨w.heap.size, 1, none⟩ (.slice a2 m2 k2)).setCell ⟨w.heap.size, 2, none⟩ (.slice a3 m3 k3)).setCell ⟨w.heap.size, 3, none⟩ (.slice A4 n4 c4)).setCell ⟨w.heap.size, 4, none⟩ (.bool ev)).heap[k]? = wr.heap[k]? := fun k h1 _ => five_other _ _ _ _ _ h1
          refine ⟨⟨_, rfl, _, _, _, _, rfl, ?_, ?_, ?_, ?_⟩, below_five (hBW.trans (hbel.mono (Nat.le_of_lt hwR))) (Nat.le_refl _) _ _ _ _ _⟩
          · rw [Int.toNat_natCast]; exact h1.after hR6 hS.out rfl rfl hkp
          · rw [Int.toNat_natCast]; exact h2.after hR6 hS.out rfl rfl hkp
          · rw [Int.toNat_natCast]; exact h3.after hR6 hS.out rfl rfl hkp
          · rw [hd0, Nat.pow_zero]; exact h4.after hR6 hS.out rfl rfl hkp)
end Go.Proofs.YtjdelpelnjhidaaGreatDoor.Pl
