/- strconv.FormatUint at base 10, walked over the shelf's contracts. -/
import Derived.Test.YtjdelpelnjhidaaGreatDoorFtoB
import Derived.Lib.AppendIntMem
namespace Go.Proofs.YtjdelpelnjhidaaGreatDoor.Pl
open Go.RowKit Go.Lib Go.Sort
/-- the table that the library's decimal texts read -/
def Tab10 (w : World) : Prop := Lib.TabIs Tryz.prog w "internal/strconv.uint64pow10" .u64 Lib.pow10Tab
theorem Tab10.below {w w' : World} (h : Tab10 w) (k : Below w.heap.size w w') : Tab10 w' := by
  unfold Tab10 Lib.TabIs World.var? at *
  cases hg : Tryz.prog.globalNamed "internal/strconv.uint64pow10" with
  | none => simp [hg] at h
  | some g =>
    simp only [hg, Option.bind_some] at h ⊢
    have hlt : g < w.heap.size := by
      rcases Nat.lt_or_ge g w.heap.size with h' | h'
      · exact h'
      · rw [Array.getElem?_eq_none h'] at h; simp at h
    rw [k.block g hlt]
    exact h
theorem dec_len {d : Nat} (h1 : 1 ≤ d) (h2 : d < 18446744073709551616) : 1 ≤ (Lib.decDigits d).length ∧ (Lib.decDigits d).length ≤ 20 := by
  have h3 := Lib.lt_pow_nDigits d
  have h4 := Lib.numDigits_eq d h1 h2
  rw [Lib.decDigits_length]
  refine ⟨?_, by split at h4 <;> omega⟩
  rcases Nat.eq_zero_or_pos (Lib.nDigits d) with h | h
  · rw [h] at h3; omega
  · exact h
theorem holds_zero0 (w : World) (T : TypeId) (nd : Nat) (hs : nd ≤ 24) : Holds (fun (b : UInt8) => Value.int .u8 (b.toNat : Int)) (w.alloc (.cells Lib.zeros24 T)) w.heap.size 0 (Array.replicate nd (0 : UInt8)) := fun j hj => by
  have hj' : j < nd := by simpa using hj
  refine ⟨?_, World.frozen?_alloc_new _ _ _ _⟩
  rw [World.cell?_alloc_new, Lib.zeros24_at _ (by omega), getElem!_pos _ j hj]
  simp
set_option maxHeartbeats 6400000 in
set_option maxRecDepth 100000 in
theorem fmtu10_any (u : Nat) (hu64 : u < 18446744073709551616) (w : World) (htab : Tab10 w) : Calls Tryz.prog 85 #[.int .u64 u, .int .i64 10] w fun e w' => e = .returned (.string (B (Lib.decDigits u))) ∧ Below w.heap.size w w' := by
  by_cases hs : u < 100
  · have hsi : (u : Int) < 100 := by omega
    have hsm := Lib.hid (Tryz.internal_strconv_small u hs w)
    go_enter Tryz.func85, Tryz.ntmps85
    go_wp2_with (first | (go_at_call 103; refine hsm.out.mono ?_; rintro e w' ⟨rfl, hw⟩; subst hw) | fail)
    go_ret
    exact ⟨rfl, Below.refl _ _⟩
  · have hu1 : 1 ≤ u := by omega
    have hsi : ¬ (u : Int) < 100 := by omega
    have hnd20 : Lib.nDigits u ≤ 20 := by have := Lib.numDigits_eq u hu1 hu64; split at this <;> omega
    have hnd := Lib.hid (Tryz.internal_strconv_numDigits u hu1 hu64 _ (Lib.tabIs_alloc htab (.cells Lib.zeros24 140)))
    have hH0 := holds_zero0 w 140 (Lib.nDigits u) (by omega)
    have hfmt := Tryz.internal_strconv_formatBase10 w.heap.size 0 24 u (Array.replicate (Lib.nDigits u) 0) (w.alloc (.cells Lib.zeros24 140)) hH0 (by rw [Array.size_replicate]; exact Lib.lt_pow_nDigits u) hu64 (by rw [Array.size_replicate]; omega)
    rw [Array.size_replicate] at hfmt
    have hsl : ∀ W, (Instr.sliceAt 140 (.pointer (some ⟨w.heap.size, 0, none⟩)) none (some (.int .i64 (Lib.nDigits u : Int))) none).run Tryz.prog W = .ok (.slice (some ⟨w.heap.size, 0, none⟩) (Lib.nDigits u) 24) W := fun W => by
      have hal : Tryz.prog.arrayLen 140 = 24 := by kernel_rfl
      rw [run_sliceAt_array_h W 140 ⟨w.heap.size, 0, none⟩ (by kernel_rfl) .i64 (Lib.nDigits u : Int) (by omega) (by rw [hal]; omega)]
      go_simp
    have HH0 := Lib.hid hH0
    have HF := Lib.hid hfmt
    clear hH0 hfmt
    go_enter Tryz.func85, Tryz.ntmps85
    go_wp2_with (first | (go_at_call 104; refine hnd.out.mono ?_; rintro e w' ⟨rfl, hw⟩; subst hw) | fail)
    refine HF.out.mono ?_
    rintro e w' ⟨rfl, k, v', dk, rfl, hF⟩
    have hcv : (convert 65 9 (.slice (some ⟨w.heap.size, 0, none⟩) (Lib.nDigits u) 24)).run Tryz.prog ((putRow (fun (b : UInt8) => Value.int .u8 (b.toNat : Int)) (w.alloc (.cells Lib.zeros24 140)) w.heap.size 0 dk).drewN k) = .ok (.string ⟨(Lib.decDigits u).toArray⟩) ((putRow (fun (b : UInt8) => Value.int .u8 (b.toNat : Int)) (w.alloc (.cells Lib.zeros24 140)) w.heap.size 0 dk).drewN k) := by
      have h := run_convert_bytes_back (P := Tryz.prog) ((putRow (fun (b : UInt8) => Value.int .u8 (b.toNat : Int)) (w.alloc (.cells Lib.zeros24 140)) w.heap.size 0 dk).drewN k) 65 9 5 ⟨w.heap.size, 0, none⟩ 24 (Lib.decDigits u) (by kernel_rfl) (by kernel_rfl) (by kernel_rfl) (fun j hj => by
        rw [Lib.row_is_numeral hF j hj, Lib.add_plain, World.cell?_drewN]
        exact cell?_putRow (fun (b : UInt8) => Value.int .u8 (b.toNat : Int)) _ w.heap.size 0 _ dk HH0.out (by rw [hF.size, Array.size_replicate]) j (by rw [hF.size]; rw [Lib.decDigits_length] at hj; exact hj))
      rw [Lib.decDigits_length] at h
      exact h
    go_wp2
    go_ret
    refine ⟨rfl, ?_⟩
    rw [alloc_eq_grow]
    obtain ⟨os', _, eo⟩ := putRow_grow_new (fun (b : UInt8) => Value.int .u8 (b.toNat : Int)) w #[.cells Lib.zeros24 140] w.heap.size 0 dk (Nat.le_refl _)
    rw [eo]
    exact below_grow w.heap.size w (Nat.le_refl _) k os'
/-- the text of a number, by the library -/
theorem fmtu_any (u : Nat) (hu64 : u < 18446744073709551616) (w : World) (htab : Tab10 w) : Calls Tryz.prog 68 #[.int .u64 u, .int .i64 10] w fun e w' => e = .returned (.string (B (Lib.decDigits u))) ∧ Below w.heap.size w w' := by
  have h := Lib.hid (fmtu10_any u hu64 w htab)
  go_enter Tryz.func68, Tryz.ntmps68
  go_wp2_with (first | (go_at_call 85; refine h.out.mono ?_; rintro e w' ⟨rfl, hb⟩) | fail)
  go_ret
  exact ⟨rfl, hb⟩
/-- the text of an int, by the library -/
theorem itoa_any (n : Int) (h0 : -9223372036854775808 ≤ n) (h1 : n ≤ 9223372036854775807) (w : World) (htab : Tab10 w) : Calls Tryz.prog 70 #[.int .i64 n] w fun e w' => e = .returned (.string (B (Lib.itoa n))) ∧ Below w.heap.size w w' := by
  refine (Tryz.strconv_Itoa n h0 h1 w htab).mono ?_
  rintro e w' ⟨rfl, k, os, rfl⟩
  exact ⟨rfl, below_grow _ _ (Nat.le_refl _) k os⟩
/-- a pattern's digits and the place of the point among them -/
theorem digits_any (b : Nat) (w : World) (hb : b < 9223372036854775808) (h0 : b ≠ 0) (hf : finP b) (htab : Tab10 w) : Calls Tryz.prog 66 #[.int .u64 b] w fun e w' => (∃ (d : Nat) (x : Int), e = .returned (.tuple #[.string (B (Lib.decDigits d)), .int .i64 ((Lib.decDigits d).length + x)]) ∧ ShortR b d x ∧ d < 18446744073709551616) ∧ Below w.heap.size w w' := by
  have HS := Lib.hid (shortest_any b w hb h0 hf)
  go_enter Tryz.func66, Tryz.ntmps66
  go_wp2_with (first
    | (go_at_call 84; refine HS.out.mono ?_; rintro e w1 ⟨⟨d, x, rfl, hsr, hd⟩, hb1⟩; have hf1 := Lib.hid (fmtu_any d hd w1 (htab.below hb1)))
    | (go_at_call 68; refine hf1.out.mono ?_; rintro e w2 ⟨rfl, hb2⟩)
    | fail)
  obtain ⟨t, i, k, hT, hi, hc, hno, hdk, hx, hm, hx1, hx2⟩ := id hsr
  have hl := dec_len (d := d) (by omega) hd
  rw [show ((B (Lib.decDigits d)).size : Int) = ((Lib.decDigits d).length : Nat) by rw [B_size]]
  rw [show wrap64 (((Lib.decDigits d).length : Int) + x) = (Lib.decDigits d).length + x by unfold wrap64; omega]
  go_ret2
  exact ⟨⟨d, x, rfl, hsr, hd⟩, hb1.trans (hb2.mono hb1.size)⟩
end Go.Proofs.YtjdelpelnjhidaaGreatDoor.Pl
