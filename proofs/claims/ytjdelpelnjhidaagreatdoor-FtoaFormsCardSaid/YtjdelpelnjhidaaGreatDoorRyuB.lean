/- ryu: the numbers by a power of ten; whether a whole number lies in the interval. -/
import Derived.Test.YtjdelpelnjhidaaGreatDoorRyuA
import Derived.Deep.RegionLaw
namespace Go.Proofs.YtjdelpelnjhidaaGreatDoor.Pl
open Go.RowKit
theorem bl10 (n : Nat) : bl (10 ^ n) ≤ 4 * n + 1 := by
  have := bl_pow_le 10 n
  rw [show bl 10 = 4 by decide] at this
  omega
set_option maxRecDepth 100000 in
set_option maxHeartbeats 8000000 in
theorem by_any (v : Value) (low here high den : Nat) (ends : Bool) (e : Int) (w : World) (hv : IsSc w v low here high den ends) (h1e : -500 ≤ e) (h2e : e ≤ 500) (hb1 : bl low ≤ 4000) (hb2 : bl here ≤ 4000) (hb3 : bl high ≤ 4000) (hb4 : bl den ≤ 4000) : Calls Tryz.prog 97 #[v, .int .i64 e] w fun r w' => (∃ v', r = .returned v' ∧
      IsSc w' v' (low * 10 ^ (-e).toNat) (here * 10 ^ (-e).toNat) (high * 10 ^ (-e).toNat) (den * 10 ^ e.toNat) ends) ∧ Below w.heap.size w w' := by
  obtain ⟨a, b, c, d, rfl, hwa, hwb, hwc, hwd⟩ := hv
  obtain ⟨A1, n1, c1, rfl⟩ := hwa.form
  obtain ⟨A2, n2, c2, rfl⟩ := hwb.form
  obtain ⟨A3, n3, c3, rfl⟩ := hwc.form
  obtain ⟨A4, n4, c4, rfl⟩ := hwd.form
  by_cases he : 0 ≤ e
  · obtain ⟨n, rfl⟩ : ∃ n : Nat, e = n := ⟨e.toNat, by omega⟩
    have hbt := bl10 n
    have HT := fun w => Lib.hid (ten_any n w (by omega))
    have HMU := fun z W hz hd => Lib.hid (mul_any (.slice A4 n4 c4) z (ws den) (ws (10 ^ n)) W hd hz (by have := ws_len_bits (n := den) (k := 100) (by omega); omega) (by have := ws_len_bits (n := 10 ^ n) (k := 100) (by omega); omega) (by rw [val_ws, val_ws]; omega))
    simp only [val_ws] at HMU
    go_enter Tryz.func97, Tryz.ntmps97
    go_wp2_with fail
    obtain ⟨W2, hW2⟩ : ∃ W2, W2 = ((w.alloc (.cells #[.slice A1 n1 c1, .slice A2 n2 c2, .slice A3 n3 c3, .slice A4 n4 c4, .bool ends] 129 (0, 0))).alloc (.cells #[.slice none 0 0, .slice none 0 0, .slice none 0 0, .slice none 0 0, .bool false] 129 (0, 0))) := ⟨_, rfl⟩
    have hS0 : W2.heap[w.heap.size]? = some (.cells #[.slice A1 n1 c1, .slice A2 n2 c2, .slice A3 n3 c3, .slice A4 n4 c4, .bool ends] 129 (0, 0)) := by rw [hW2]; exact (Below.heap_alloc _ _ _ (by simp)).trans (World.alloc_heap_new w _)
    have hR0 : W2.heap[w.heap.size + 1]? = some (.cells #[.slice none 0 0, .slice none 0 0, .slice none 0 0, .slice none 0 0, .bool false] 129 (0, 0)) := by
      have := World.alloc_heap_new (w.alloc (.cells #[.slice A1 n1 c1, .slice A2 n2 c2, .slice A3 n3 c3, .slice A4 n4 c4, .bool ends] 129 (0, 0))) (.cells #[.slice none 0 0, .slice none 0 0, .slice none 0 0, .slice none 0 0, .bool false] 129 (0, 0))
      rw [World.size_alloc] at this
      rw [hW2]; exact this
    have hBW : Below w.heap.size w W2 := by rw [hW2]; exact ((Below.refl _ _).alloc (Nat.le_refl _) _).alloc (by simp) _
    rw [← hW2]
    clear hW2
    have hwa2 := hwa.below hBW
    have hwb2 := hwb.below hBW
    have hwc2 := hwc.below hBW
    have hwd2 := hwd.below hBW
    clear hwa hwb hwc hwd
    refine (HT W2).out.mono ?_
    rintro r w3 ⟨⟨z, rfl, hz⟩, hb3⟩
    obtain ⟨AP, nP, cP, rfl⟩ := hz.form
    have hS3 := (hb3.block w.heap.size (lt_of_heap hS0)).trans hS0
    have hR3 := (hb3.block (w.heap.size + 1) (lt_of_heap hR0)).trans hR0
    obtain ⟨s0, s1, s2, s3, s4, fs⟩ := five_cells hS3
    have hmm := HMU _ w3 hz (hwd2.below hb3)
    go_wp2_with (first
      | (go_at_call 113; refine hmm.out.mono ?_; rintro r w4 ⟨⟨z5, rfl, hz5⟩, hb4⟩; obtain ⟨A5, n5, c5, rfl⟩ := hz5.form; have hS4 := (hb4.block w.heap.size (lt_of_heap hS3)).trans hS3; have hR4 := (hb4.block (w.heap.size + 1) (lt_of_heap hR3)).trans hR3; obtain ⟨t0, t1, t2, t3, t4, ft⟩ := five_cells hS4; obtain ⟨r0, r1, r2, r3, r4, fr⟩ := five_cells hR4)
      | fail)
    have hfin := five_set (w := w4.setCell ⟨w.heap.size, 3, none⟩ (.slice A5 n5 c5)) ((heap_setCell_other w4 ⟨w.heap.size, 3, none⟩ (w.heap.size + 1) _ (by simp)).trans hR4) (.slice A1 n1 c1) (.slice A2 n2 c2) (.slice A3 n3 c3) (.slice A5 n5 c5) (.bool ends)
    have h24 := below2 hb3 hb4
    have hB4 : Below w.heap.size w w4 := hBW.trans (h24.mono hBW.size)
    refine bodyPost_ret (results_cell_row (p := 4) (ty := 129) Tryz.results97 _ _ (w.heap.size + 1) _ _ _ _ rfl hfin Tryz.underlying129 rfl Tryz.infoSc) rfl ?_
    have hkp : ∀ k, k ≠ w.heap.size + 1 → k ≠ w.heap.size → ((((((w4.setCell ⟨w.heap.size, 3, none⟩ (.slice A5 n5 c5)).setCell ⟨w.heap.size + 1, 0, none⟩ (.slice A1 n1 c1)).setCell ⟨w.heap.size + 1, 1, none⟩ (.slice A2 n2 c2)).setCell ⟨w.heap.size + 1, 2, none⟩ (.slice A3 n3 c3)).setCell ⟨w.heap.size + 1, 3, none⟩ (.slice A5 n5 c5)).setCell ⟨w.heap.size + 1, 4, none⟩ (.bool ends)).heap[k]? = w4.heap[k]? := fun k h1 h2 => by
      rw [five_other _ _ _ _ _ h1, heap_setCell_other w4 ⟨w.heap.size, 3, none⟩ k _ h2]
    have hd0 : (-(n : Int)).toNat = 0 := by omega
    refine ⟨⟨_, rfl, _, _, _, _, rfl, ?_, ?_, ?_, ?_⟩, below_five (hB4.setCell (by exact Nat.le_refl _) _) (Nat.le_succ _) _ _ _ _ _⟩
    · rw [hd0, Nat.pow_zero, Nat.mul_one]; exact (hwa2.below h24).after hR4 hS4 rfl rfl hkp
    · rw [hd0, Nat.pow_zero, Nat.mul_one]; exact (hwb2.below h24).after hR4 hS4 rfl rfl hkp
    · rw [hd0, Nat.pow_zero, Nat.mul_one]; exact (hwc2.below h24).after hR4 hS4 rfl rfl hkp
    · rw [Int.toNat_natCast]; exact hz5.after hR4 hS4 rfl rfl hkp
  · obtain ⟨n, rfl⟩ : ∃ n : Nat, e = -(n : Int) := ⟨(-e).toNat, by omega⟩
    have hn0 : 0 < n := by omega
    have hbt := bl10 n
    have HT := fun w => Lib.hid (ten_any n w (by omega))
    have hpl : (ws (10 ^ n)).length ≤ 17592186044416 := by have := ws_len_bits (n := 10 ^ n) (k := 100) (by omega); omega
    go_enter Tryz.func97, Tryz.ntmps97
    go_wp2_with fail
    obtain ⟨W2, hW2⟩ : ∃ W2, W2 = ((w.alloc (.cells #[.slice A1 n1 c1, .slice A2 n2 c2, .slice A3 n3 c3, .slice A4 n4 c4, .bool ends] 129 (0, 0))).alloc (.cells #[.slice none 0 0, .slice none 0 0, .slice none 0 0, .slice none 0 0, .bool false] 129 (0, 0))) := ⟨_, rfl⟩
    have hS0 : W2.heap[w.heap.size]? = some (.cells #[.slice A1 n1 c1, .slice A2 n2 c2, .slice A3 n3 c3, .slice A4 n4 c4, .bool ends] 129 (0, 0)) := by rw [hW2]; exact (Below.heap_alloc _ _ _ (by simp)).trans (World.alloc_heap_new w _)
    have hR0 : W2.heap[w.heap.size + 1]? = some (.cells #[.slice none 0 0, .slice none 0 0, .slice none 0 0, .slice none 0 0, .bool false] 129 (0, 0)) := by
      have := World.alloc_heap_new (w.alloc (.cells #[.slice A1 n1 c1, .slice A2 n2 c2, .slice A3 n3 c3, .slice A4 n4 c4, .bool ends] 129 (0, 0))) (.cells #[.slice none 0 0, .slice none 0 0, .slice none 0 0, .slice none 0 0, .bool false] 129 (0, 0))
      rw [World.size_alloc] at this
      rw [hW2]; exact this
    have hBW : Below w.heap.size w W2 := by rw [hW2]; exact ((Below.refl _ _).alloc (Nat.le_refl _) _).alloc (by simp) _
    rw [← hW2]
    clear hW2
    have hwa2 := hwa.below hBW
    have hwb2 := hwb.below hBW
    have hwc2 := hwc.below hBW
    have hwd2 := hwd.below hBW
    clear hwa hwb hwc hwd
    refine (HT W2).out.mono ?_
    rintro r w3 ⟨⟨z, rfl, hz⟩, hb3⟩
    obtain ⟨AP, nP, cP, rfl⟩ := hz.form
    have hS3 := (hb3.block w.heap.size (lt_of_heap hS0)).trans hS0
    have hR3 := (hb3.block (w.heap.size + 1) (lt_of_heap hR0)).trans hR0
    have hB3 : Below w.heap.size w w3 := hBW.trans (hb3.mono hBW.size)
    go_wp2_with fail
    obtain ⟨Q, hQ⟩ : ∃ Q, Q = w3.heap.size := ⟨_, rfl⟩
    have hP5 := World.alloc_heap_new w3 (.cells #[.pointer (some ⟨w.heap.size, 0, none⟩), .pointer (some ⟨w.heap.size, 1, none⟩), .pointer (some ⟨w.heap.size, 2, none⟩)] 146 (0, 0))
    have hS5 := (Below.heap_alloc w3 (.cells #[.pointer (some ⟨w.heap.size, 0, none⟩), .pointer (some ⟨w.heap.size, 1, none⟩), .pointer (some ⟨w.heap.size, 2, none⟩)] 146 (0, 0)) _ (lt_of_heap hS3)).trans hS3
    have hR5 := (Below.heap_alloc w3 (.cells #[.pointer (some ⟨w.heap.size, 0, none⟩), .pointer (some ⟨w.heap.size, 1, none⟩), .pointer (some ⟨w.heap.size, 2, none⟩)] 146 (0, 0)) _ (lt_of_heap hR3)).trans hR3
    have hB35 := (Below.refl w3.heap.size w3).alloc (Nat.le_refl _) (.cells #[.pointer (some ⟨w.heap.size, 0, none⟩), .pointer (some ⟨w.heap.size, 1, none⟩), .pointer (some ⟨w.heap.size, 2, none⟩)] 146 (0, 0))
    have hB5 : Below w.heap.size w _ := hB3.trans (hB35.mono hB3.size)
    have q1 := (hwa2.below hb3).below hB35
    have q2 := (hwb2.below hb3).below hB35
    have q3 := (hwc2.below hb3).below hB35
    have q4 := (hwd2.below hb3).below hB35
    have q5 := hz.below hB35
    have hQw : w.heap.size + 1 < Q := by rw [hQ]; exact lt_of_heap hR3
    rw [← hQ] at hP5 ⊢
    clear hQ hwa2 hwb2 hwc2 hwd2 hz
    rw [show decide (n = 0) = false from decide_eq_false (by omega)]
    go_loopw [33] (fun i wr => ∃ (k : Nat) (A1 A2 A3 : Option Addr) (n1 n2 n3 c1 c2 c3 : Nat), i = .int .i64 k ∧ k ≤ 3 ∧ Hid (wr.heap[w.heap.size]? = some (.cells #[.slice A1 n1 c1, .slice A2 n2 c2, .slice A3 n3 c3, .slice A4 n4 c4, .bool ends] 129 (0, 0))) ∧
      Hid (wr.heap[Q]? = some (.cells #[.pointer (some ⟨w.heap.size, 0, none⟩), .pointer (some ⟨w.heap.size, 1, none⟩), .pointer (some ⟨w.heap.size, 2, none⟩)] 146 (0, 0))) ∧ Hid (wr.heap[w.heap.size + 1]? = some (.cells #[.slice none 0 0, .slice none 0 0, .slice none 0 0, .slice none 0 0, .bool false] 129 (0, 0))) ∧ Wx wr (.slice A1 n1 c1) (ws (low * 10 ^ (if 0 < k then n else 0))) ∧ Wx wr (.slice A2 n2 c2) (ws (here * 10 ^ (if 1 < k then n else 0))) ∧ Wx wr (.slice A3 n3 c3) (ws (high * 10 ^ (if 2 < k then n else 0))) ∧ Wx wr (.slice A4 n4 c4) (ws den) ∧ Wx wr (.slice AP nP cP) (ws (10 ^ n)) ∧ Below w.heap.size w wr) (fun i _ => 3 - (intOf i).toNat)
    case atStart => exact ⟨0, A1, A2, A3, n1, n2, n3, c1, c2, c3, rfl, by omega, Lib.hid hS5, Lib.hid hP5, Lib.hid hR5, by rw [if_neg (by omega), Nat.pow_zero, Nat.mul_one]; exact q1, by rw [if_neg (by omega), Nat.pow_zero, Nat.mul_one]; exact q2, by rw [if_neg (by omega), Nat.pow_zero, Nat.mul_one]; exact q3, q4, q5, hB5⟩
    case round =>
      clear hS5 hP5 hR5 hB5 q1 q2 q3 q4 q5 hB35
      obtain ⟨k, a1, a2, a3, m1, m2, m3, k1, k2, k3, rfl, hk, hS, hP, hR, h1, h2, h3, h4, hp, hbel⟩ := hrel
      rcases (by omega : k = 0 ∨ k = 1 ∨ k = 2 ∨ k = 3) with rfl | rfl | rfl | rfl
      · have hin := h1
        rw [if_neg (by omega), Nat.pow_zero, Nat.mul_one] at hin
        have hsh := Lib.hid (mul_any (.slice a1 m1 k1) (.slice AP nP cP) (ws low) (ws (10 ^ n)) wr hin hp (by have := ws_len_bits (n := low) (k := 100) (by omega); omega) hpl (by rw [val_ws, val_ws]; omega))
        rw [val_ws, val_ws] at hsh
        obtain ⟨s0, s1, s2, s3, s4, fs⟩ := five_cells hS.out
        have p0 : wr.cell? ⟨Q, 0, none⟩ = some (.pointer (some ⟨w.heap.size, 0, none⟩)) := cell_of_row wr Q 0 _ _ _ hP.out
        go_wp2_with (first
          | (go_at_call 113; refine hsh.out.mono ?_; rintro e w6 ⟨⟨z5, rfl, hz5⟩, hb6⟩; obtain ⟨A5, n5, c5, rfl⟩ := hz5.form; have hS6 := (hb6.block w.heap.size (lt_of_heap hS.out)).trans hS.out; have hP6 := (hb6.block Q (lt_of_heap hP.out)).trans hP.out; have hR6 := (hb6.block (w.heap.size + 1) (lt_of_heap hR.out)).trans hR.out; obtain ⟨t0, t1, t2, t3, t4, ft⟩ := five_cells hS6)
          | fail)
        have hkp : ∀ k, k ≠ w.heap.size → k ≠ w.heap.size → (w6.setCell ⟨w.heap.size, 0, none⟩ (.slice A5 n5 c5)).heap[k]? = w6.heap[k]? := fun k h1 _ => heap_setCell_other w6 ⟨w.heap.size, 0, none⟩ k _ h1
        go_roundw
        case rel =>
          exact ⟨1, A5, a2, a3, n5, m2, m3, c5, k2, k3, by go_num, by omega, Lib.hid (heap_setCell_same w6 w.heap.size 0 _ _ _ hS6), Lib.hid ((heap_setCell_other w6 ⟨w.heap.size, 0, none⟩ Q _ (by simp; omega)).trans hP6), Lib.hid ((heap_setCell_other w6 ⟨w.heap.size, 0, none⟩ (w.heap.size + 1) _ (by simp)).trans hR6), by rw [if_pos (by omega)]; exact hz5.after hS6 hS6 rfl rfl hkp, by first | (rw [if_pos (by omega)]; rw [if_pos (by omega)] at h2; exact (h2.below hb6).after hS6 hS6 rfl rfl hkp) | (rw [if_neg (by omega)]; rw [if_neg (by omega)] at h2; exact (h2.below hb6).after hS6 hS6 rfl rfl hkp), by first | (rw [if_pos (by omega)]; rw [if_pos (by omega)] at h3; exact (h3.below hb6).after hS6 hS6 rfl rfl hkp) | (rw [if_neg (by omega)]; rw [if_neg (by omega)] at h3; exact (h3.below hb6).after hS6 hS6 rfl rfl hkp), (h4.below hb6).after hS6 hS6 rfl rfl hkp, (hp.below hb6).after hS6 hS6 rfl rfl hkp, (hbel.trans (hb6.mono hbel.size)).setCell (by exact Nat.le_refl _) _⟩
        case measure => simp [intOf]
      · have hin := h2
        rw [if_neg (by omega), Nat.pow_zero, Nat.mul_one] at hin
        have hsh := Lib.hid (mul_any (.slice a2 m2 k2) (.slice AP nP cP) (ws here) (ws (10 ^ n)) wr hin hp (by have := ws_len_bits (n := here) (k := 100) (by omega); omega) hpl (by rw [val_ws, val_ws]; omega))
        rw [val_ws, val_ws] at hsh
        obtain ⟨s0, s1, s2, s3, s4, fs⟩ := five_cells hS.out
        have p0 : wr.cell? ⟨Q, 1, none⟩ = some (.pointer (some ⟨w.heap.size, 1, none⟩)) := cell_of_row wr Q 1 _ _ _ hP.out
        go_wp2_with (first
          | (go_at_call 113; refine hsh.out.mono ?_; rintro e w6 ⟨⟨z5, rfl, hz5⟩, hb6⟩; obtain ⟨A5, n5, c5, rfl⟩ := hz5.form; have hS6 := (hb6.block w.heap.size (lt_of_heap hS.out)).trans hS.out; have hP6 := (hb6.block Q (lt_of_heap hP.out)).trans hP.out; have hR6 := (hb6.block (w.heap.size + 1) (lt_of_heap hR.out)).trans hR.out; obtain ⟨t0, t1, t2, t3, t4, ft⟩ := five_cells hS6)
          | fail)
        have hkp : ∀ k, k ≠ w.heap.size → k ≠ w.heap.size → (w6.setCell ⟨w.heap.size, 1, none⟩ (.slice A5 n5 c5)).heap[k]? = w6.heap[k]? := fun k h1 _ => heap_setCell_other w6 ⟨w.heap.size, 1, none⟩ k _ h1
        go_roundw
        case rel =>
          exact ⟨2, a1, A5, a3, m1, n5, m3, k1, c5, k3, by go_num, by omega, Lib.hid (heap_setCell_same w6 w.heap.size 1 _ _ _ hS6), Lib.hid ((heap_setCell_other w6 ⟨w.heap.size, 1, none⟩ Q _ (by simp; omega)).trans hP6), Lib.hid ((heap_setCell_other w6 ⟨w.heap.size, 1, none⟩ (w.heap.size + 1) _ (by simp)).trans hR6), by first | (rw [if_pos (by omega)]; rw [if_pos (by omega)] at h1; exact (h1.below hb6).after hS6 hS6 rfl rfl hkp) | (rw [if_neg (by omega)]; rw [if_neg (by omega)] at h1; exact (h1.below hb6).after hS6 hS6 rfl rfl hkp), by rw [if_pos (by omega)]; exact hz5.after hS6 hS6 rfl rfl hkp, by first | (rw [if_pos (by omega)]; rw [if_pos (by omega)] at h3; exact (h3.below hb6).after hS6 hS6 rfl rfl hkp) | (rw [if_neg (by omega)]; rw [if_neg (by omega)] at h3; exact (h3.below hb6).after hS6 hS6 rfl rfl hkp), (h4.below hb6).after hS6 hS6 rfl rfl hkp, (hp.below hb6).after hS6 hS6 rfl rfl hkp, (hbel.trans (hb6.mono hbel.size)).setCell (by exact Nat.le_refl _) _⟩
        case measure => simp [intOf]
      · have hin := h3
        rw [if_neg (by omega), Nat.pow_zero, Nat.mul_one] at hin
        have hsh := Lib.hid (mul_any (.slice a3 m3 k3) (.slice AP nP cP) (ws high) (ws (10 ^ n)) wr hin hp (by have := ws_len_bits (n := high) (k := 100) (by omega); omega) hpl (by rw [val_ws, val_ws]; omega))
        rw [val_ws, val_ws] at hsh
        obtain ⟨s0, s1, s2, s3, s4, fs⟩ := five_cells hS.out
        have p0 : wr.cell? ⟨Q, 2, none⟩ = some (.pointer (some ⟨w.heap.size, 2, none⟩)) := cell_of_row wr Q 2 _ _ _ hP.out
        go_wp2_with (first
          | (go_at_call 113; refine hsh.out.mono ?_; rintro e w6 ⟨⟨z5, rfl, hz5⟩, hb6⟩; obtain ⟨A5, n5, c5, rfl⟩ := hz5.form; have hS6 := (hb6.block w.heap.size (lt_of_heap hS.out)).trans hS.out; have hP6 := (hb6.block Q (lt_of_heap hP.out)).trans hP.out; have hR6 := (hb6.block (w.heap.size + 1) (lt_of_heap hR.out)).trans hR.out; obtain ⟨t0, t1, t2, t3, t4, ft⟩ := five_cells hS6)
          | fail)
        have hkp : ∀ k, k ≠ w.heap.size → k ≠ w.heap.size → (w6.setCell ⟨w.heap.size, 2, none⟩ (.slice A5 n5 c5)).heap[k]? = w6.heap[k]? := fun k h1 _ => heap_setCell_other w6 ⟨w.heap.size, 2, none⟩ k _ h1
        go_roundw
        case rel =>
          exact ⟨3, a1, a2, A5, m1, m2, n5, k1, k2, c5, by go_num, by omega, Lib.hid (heap_setCell_same w6 w.heap.size 2 _ _ _ hS6), Lib.hid ((heap_setCell_other w6 ⟨w.heap.size, 2, none⟩ Q _ (by simp; omega)).trans hP6), Lib.hid ((heap_setCell_other w6 ⟨w.heap.size, 2, none⟩ (w.heap.size + 1) _ (by simp)).trans hR6), by first | (rw [if_pos (by omega)]; rw [if_pos (by omega)] at h1; exact (h1.below hb6).after hS6 hS6 rfl rfl hkp) | (rw [if_neg (by omega)]; rw [if_neg (by omega)] at h1; exact (h1.below hb6).after hS6 hS6 rfl rfl hkp), by first | (rw [if_pos (by omega)]; rw [if_pos (by omega)] at h2; exact (h2.below hb6).after hS6 hS6 rfl rfl hkp) | (rw [if_neg (by omega)]; rw [if_neg (by omega)] at h2; exact (h2.below hb6).after hS6 hS6 rfl rfl hkp), by rw [if_pos (by omega)]; exact hz5.after hS6 hS6 rfl rfl hkp, (h4.below hb6).after hS6 hS6 rfl rfl hkp, (hp.below hb6).after hS6 hS6 rfl rfl hkp, (hbel.trans (hb6.mono hbel.size)).setCell (by exact Nat.le_refl _) _⟩
        case measure => simp [intOf]
      · rw [if_pos (by omega)] at h1 h2 h3
        obtain ⟨s0, s1, s2, s3, s4, fs⟩ := five_cells hS.out
        obtain ⟨r0, r1, r2, r3, r4, fr⟩ := five_cells hR.out
        go_wp2_with fail
        have hfin := five_set hR.out (.slice a1 m1 k1) (.slice a2 m2 k2) (.slice a3 m3 k3) (.slice A4 n4 c4) (.bool ends)
        refine bodyPost_ret (results_cell_row (p := 4) (ty := 129) Tryz.results97 _ _ (w.heap.size + 1) _ _ _ _ rfl hfin Tryz.underlying129 rfl Tryz.infoSc) rfl ?_
        have hd0 : (-(n : Int)).toNat = 0 := by omega
        have hkp : ∀ k, k ≠ w.heap.size + 1 → k ≠ w.heap.size → (((((wr.setCell ⟨w.heap.size + 1, 0, none⟩ (.slice a1 m1 k1)).setCell ⟨w.heap.size + 1, 1, none⟩ (.slice a2 m2 k2)).setCell ⟨w.heap.size + 1, 2, none⟩ (.slice a3 m3 k3)).setCell ⟨w.heap.size + 1, 3, none⟩ (.slice A4 n4 c4)).setCell ⟨w.heap.size + 1, 4, none⟩ (.bool ends)).heap[k]? = wr.heap[k]? := fun k h1 _ => five_other _ _ _ _ _ h1
        refine ⟨⟨_, rfl, _, _, _, _, rfl, ?_, ?_, ?_, ?_⟩, below_five hbel (Nat.le_succ _) _ _ _ _ _⟩
        · rw [Int.neg_neg, Int.toNat_natCast]; exact h1.after hR.out hS.out rfl rfl hkp
        · rw [Int.neg_neg, Int.toNat_natCast]; exact h2.after hR.out hS.out rfl rfl hkp
        · rw [Int.neg_neg, Int.toNat_natCast]; exact h3.after hR.out hS.out rfl rfl hkp
        · rw [hd0, Nat.pow_zero, Nat.mul_one]; exact h4.after hR.out hS.out rfl rfl hkp
/-- whether a whole number lies in the interval -/
def holdsB (low high den : Nat) (ends : Bool) (d : Nat) : Bool := (decide (low < d * den) && decide (d * den < high)) || (ends && decide (low ≤ d * den) && decide (d * den ≤ high))
theorem cmpN_neg {a b : Nat} : cmpN a b < 0 ↔ a < b := by
  unfold cmpN
  split
  · rename_i h; exact ⟨fun _ => h, fun _ => by decide⟩
  · rename_i h
    split
    · exact ⟨fun h => by simp at h, fun h2 => (h h2).elim⟩
    · exact ⟨fun h => by simp at h, fun h2 => (h h2).elim⟩
theorem cmpN_nonpos {a b : Nat} : cmpN a b ≤ 0 ↔ a ≤ b := by
  unfold cmpN
  split
  · rename_i h; exact ⟨fun _ => Nat.le_of_lt h, fun _ => by decide⟩
  · rename_i h
    split
    · rename_i h2; exact ⟨fun _ => Nat.le_of_eq h2, fun _ => by decide⟩
    · exact ⟨fun h => by simp at h, fun h2 => by omega⟩
theorem holds_eq {low high den d : Nat} {ends : Bool} {lo hi : Int} (h1 : lo = cmpN low (d * den)) (h2 : hi = cmpN (d * den) high) : holdsB low high den ends d = ((decide (lo < 0) && decide (hi < 0)) || (ends && decide (lo ≤ 0) && decide (hi ≤ 0))) := by
  unfold holdsB
  rw [h1, h2, decide_eq_decide.2 (cmpN_neg (a := low) (b := d * den)), decide_eq_decide.2 (cmpN_neg (a := d * den) (b := high)), decide_eq_decide.2 (cmpN_nonpos (a := low) (b := d * den)), decide_eq_decide.2 (cmpN_nonpos (a := d * den) (b := high))]
set_option maxRecDepth 100000 in
set_option maxHeartbeats 8000000 in
theorem holds_any (v : Value) (low here high den : Nat) (ends : Bool) (d : Nat) (w : World) (hv : IsSc w v low here high den ends) (hd : d < 18446744073709551616) (hb4 : bl den ≤ 8000) : Calls Tryz.prog 102 #[v, .int .u64 d] w fun r w' => r = .returned (.bool (holdsB low high den ends d)) ∧ Below w.heap.size w w' := by
  obtain ⟨a, b, c, z, rfl, hwa, hwb, hwc, hwd⟩ := hv
  obtain ⟨A1, n1, c1, rfl⟩ := hwa.form
  obtain ⟨A2, n2, c2, rfl⟩ := hwb.form
  obtain ⟨A3, n3, c3, rfl⟩ := hwc.form
  obtain ⟨A4, n4, c4, rfl⟩ := hwd.form
  have hbd : bl d ≤ 64 := bl_le_iff.2 (by omega)
  have HF := fun W => Lib.hid (from_any d W hd)
  have HM := fun u W hu hz => Lib.hid (mul_any u (.slice A4 n4 c4) (ws d) (ws den) W hu hz (by have := ws_len_bits (n := d) (k := 1) (by omega); omega) (by have := ws_len_bits (n := den) (k := 200) (by omega); omega) (by rw [val_ws, val_ws]; omega))
  simp only [val_ws] at HM
  go_enter Tryz.func102, Tryz.ntmps102
  go_wp2_with fail
  obtain ⟨W2, hW2⟩ : ∃ W2, W2 = w.alloc (.cells #[.slice A1 n1 c1, .slice A2 n2 c2, .slice A3 n3 c3, .slice A4 n4 c4, .bool ends] 129 (0, 0)) := ⟨_, rfl⟩
  have hS0 : W2.heap[w.heap.size]? = some (.cells #[.slice A1 n1 c1, .slice A2 n2 c2, .slice A3 n3 c3, .slice A4 n4 c4, .bool ends] 129 (0, 0)) := by rw [hW2]; exact World.alloc_heap_new w _
  have hBW : Below w.heap.size w W2 := by rw [hW2]; exact (Below.refl _ _).alloc (Nat.le_refl _) _
  rw [← hW2]
  clear hW2
  have hwd2 := hwd.below hBW
  obtain ⟨s0, s1, s2, s3, s4, fs⟩ := five_cells hS0
  have HS0 := Lib.hid hS0
  clear hS0
  go_region_law (first
    | ((try go_simp); go_at_call 113; refine (HM _ _ hu (hwd2.below (below_drewW hb1))).out.mono ?_; rintro r w2 ⟨⟨x, rfl, hx⟩, hb2⟩)
    | ((try go_simp); go_at_call 110; refine (HF _).out.mono ?_; rintro r w1 ⟨⟨u, rfl, hu⟩, hb1⟩; have hS1 := (hb1.block w.heap.size (lt_of_heap HS0.out)).trans HS0.out; have t3 : w1.cell? ⟨w.heap.size, 3, none⟩ = some (.slice A4 n4 c4) := (five_cells hS1).2.2.2.1; clear hS1))
  all_goals
    go_simp
    have hb12 := below2 hb1 hb2
    have hB : Below W2.heap.size W2 w2 := below_drewW hb12
    have hS2 := (hB.block w.heap.size (lt_of_heap HS0.out)).trans HS0.out
    obtain ⟨q0, q1, q2, q3, q4, qf⟩ := five_cells hS2
    have hl := (hwa.below hBW).below hB
    have hh := (hwc.below hBW).below hB
    have HC1 := fun k => Lib.hid (cmp_any (.slice A1 n1 c1) x (ws low) (ws (d * den)) (w2.drewN k) hl hx)
    have HC2 := fun k => Lib.hid (cmp_any x (.slice A3 n3 c3) (ws (d * den)) (ws high) (w2.drewN k) hx hh)
    simp only [val_ws] at HC1 HC2
    obtain ⟨lo, hlo⟩ : ∃ z, z = cmpN low (d * den) := ⟨_, rfl⟩
    obtain ⟨hi, hhi⟩ : ∃ z, z = cmpN (d * den) high := ⟨_, rfl⟩
    rw [← hlo] at HC1
    rw [← hhi] at HC2
    have HLO := Lib.hid hlo
    have HHI := Lib.hid hhi
    clear hlo hhi hS2
    go_wp2_with fail
    go_quiet ((first | (go_at_call_of 101 (Value.slice A1 n1 c1); exact Calls.quiet_of (HC1 _).out) | (go_at_call 101; exact Calls.quiet_of (HC2 _).out)))
    go_wp2_with fail
  all_goals
    go_ret
    refine ⟨?_, hBW.trans ((hB.trans ((drewN_below _ _).mono hB.size)).mono hBW.size)⟩
    rw [holds_eq HLO.out HHI.out]
    refine congrArg (fun b => Ending.returned (Value.bool b)) (?_ : (_ : Bool) = _)
    clear HC1 HC2 HLO HHI
    by_cases a1 : lo < 0 <;> by_cases a2 : hi < 0 <;> by_cases a3 : lo ≤ 0 <;> by_cases a4 : hi ≤ 0 <;> first | (exfalso; omega) | (simp [*]; done) | (simp_all; done)
end Go.Proofs.YtjdelpelnjhidaaGreatDoor.Pl
