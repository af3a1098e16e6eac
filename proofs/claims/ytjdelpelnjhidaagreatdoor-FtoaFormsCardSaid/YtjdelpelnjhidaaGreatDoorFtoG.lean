/- the library's formatBits at base 16. -/
import Derived.Test.YtjdelpelnjhidaaGreatDoorFtoF
namespace Go.Proofs.YtjdelpelnjhidaaGreatDoor.Pl
open Go.RowKit
def hexC (n : Nat) : UInt8 := if n < 10 then UInt8.ofNat (48 + n) else UInt8.ofNat (87 + n)
/-- the lowest digits of a number, highest first -/
def hexL (u : Nat) : Nat → List UInt8
  | 0 => []
  | j + 1 => hexC (u / 16 ^ j % 16) :: hexL u j
theorem hexL_len (u j : Nat) : (hexL u j).length = j := by
  induction j with
  | zero => rfl
  | succ j ih => rw [hexL, List.length_cons, ih]
/-- the row with its last digits written -/
def hexRow (u j : Nat) : Array Value := (List.replicate (65 - j) (Value.int .u8 0) ++ (hexL u j).map bv).toArray
theorem hexRow_zero (u : Nat) : hexRow u 0 = Tryz.zeroCells159 := by
  unfold hexRow hexL
  kernel_rfl
theorem hexRow_set (u j : Nat) (h : j < 65) : (hexRow u j).set! (64 - j) (bv (hexC (u / 16 ^ j % 16))) = hexRow u (j + 1) := by
  unfold hexRow
  rw [hexL, show 65 - j = (64 - j) + 1 by omega, List.replicate_succ', show 65 - (j + 1) = 64 - j by omega]
  simp
theorem and64_15 (x : Nat) (hx : x < 18446744073709551616) : bits .and .u64 (x : Int) 15 = (x : Int) % 16 := by
  have h1 : (BitVec.ofInt 64 (x : Int)).toNat = x := by
    rw [BitVec.ofInt_natCast, BitVec.toNat_ofNat]; exact Nat.mod_eq_of_lt hx
  have h2 : (BitVec.ofInt 64 (15 : Int)).toNat = 15 := by decide
  show IntKind.u64.wrap ((BitVec.ofInt 64 (x : Int) &&& BitVec.ofInt 64 (15 : Int)).toNat : Int) = _
  rw [BitVec.toNat_and, h1, h2, show (15 : Nat) = 2 ^ 4 - 1 from rfl, Nat.and_two_pow_sub_one_eq_mod]
  simp only [IntKind.wrap_u64]
  omega
def hexT36 : ByteArray := ⟨#[48, 49, 50, 51, 52, 53, 54, 55, 56, 57, 97, 98, 99, 100, 101, 102, 103, 104, 105, 106, 107, 108, 109, 110, 111, 112, 113, 114, 115, 116, 117, 118, 119, 120, 121, 122]⟩
theorem hexT36_all : ∀ n : Fin 16, hexT36[n.val]'(Nat.lt_of_lt_of_le n.isLt (by decide)) = hexC n.val := by decide
theorem hexT36_at (n : Nat) (h : n < 16) (h2 : n < hexT36.size) : hexT36[n]'h2 = hexC n := hexT36_all ⟨n, h⟩
theorem hex_last {u j v : Nat} (h1 : 4503599627370496 ≤ u) (hv : v = u / 16 ^ j) (hlt : ¬ 16 ≤ v) (hj : j ≤ 13) : j = 13 := by
  apply Classical.byContradiction
  intro hc
  refine hlt ?_
  rw [hv, Nat.le_div_iff_mul_le (Nat.pow_pos (by decide))]
  have h2 : (16 : Nat) ^ (j + 1) ≤ 16 ^ 13 := Nat.pow_le_pow_right (by decide) (by omega)
  rw [Nat.pow_succ] at h2
  have h3 : (16 : Nat) ^ 13 = 4503599627370496 := by decide
  omega
theorem hex_place {u j v : Nat} (h2 : u < 9007199254740992) (hv : v = u / 16 ^ j) (hlt : 16 ≤ v) (hj : j ≤ 13) : j < 13 := by
  rcases (by omega : j < 13 ∨ j = 13) with h | h
  · exact h
  · subst h
    have : (16 : Nat) ^ 13 = 4503599627370496 := by decide
    omega
theorem hex_back (W : World) (G : Nat) (l : List UInt8) (h : ∀ j (hj : j < l.length), W.cell? ((⟨G, 51, none⟩ : Addr).add j) = some (.int .u8 (l[j].toNat : Int))) :
    (convert 65 9 (.slice (some ⟨G, 51, none⟩) l.length 14)).run Tryz.prog W = .ok (.string ⟨l.toArray⟩) W :=
  run_convert_bytes_back (P := Tryz.prog) W 65 9 5 ⟨G, 51, none⟩ 14 l (by kernel_rfl) (by kernel_rfl) (by kernel_rfl) h
set_option maxRecDepth 100000 in
set_option maxHeartbeats 8000000 in
theorem fmtbits16_any (u : Nat) (h1 : 4503599627370496 ≤ u) (h2 : u < 9007199254740992) (w : World) (hT : Tab16 w) : Calls Tryz.prog 106 #[.slice none 0 0, .int .u64 u, .int .i64 16, .bool false, .bool false] w fun e w' => e = .returned (.tuple #[.slice none 0 0, .string (B (hexL u 14))]) ∧ Below w.heap.size w w' := by
  have hT2 : Tab16 (w.alloc (.cells Tryz.zeroCells159 159)) := fun g hg => ((below_new w (.cells Tryz.zeroCells159 159)).cell (by have := hT g hg; exact lt_of_cell this)).trans (hT g hg)
  have hp := fun W => Lib.hid (pow2_16 W)
  have ht := Lib.hid (tz_16 _ hT2)
  go_enter Tryz.func106, Tryz.ntmps106
  go_wp2_with (first
    | (go_at_call 125; refine (hp _).out.mono ?_; rintro e w1 ⟨rfl, hw1⟩; subst hw1)
    | (go_at_call 126; refine ht.out.mono ?_; rintro e w1 ⟨rfl, hw1⟩; subst hw1)
    | fail)
  have hrow0 : (w.alloc (.cells Tryz.zeroCells159 159)).heap[w.heap.size]? = some (.cells (hexRow u 0) 159 (0, 0)) := by rw [hexRow_zero]; exact World.alloc_heap_new w _
  have hbl := below_new w (.cells Tryz.zeroCells159 159)
  clear ht hp hT2
  generalize w.alloc (.cells Tryz.zeroCells159 159) = w1 at hrow0 hbl ⊢
  obtain ⟨G, hG⟩ : ∃ G, G = w.heap.size := ⟨_, rfl⟩
  rw [← hG] at hrow0 hbl ⊢
  have HG := Lib.hid hG
  clear hG
  go_loopw [1, 13] (fun a i wr => ∃ j : Nat, a = .int .u64 ((u / 16 ^ j : Nat) : Int) ∧ i = .int .i64 (65 - (j : Int)) ∧ j ≤ 13 ∧ Hid (wr.heap[G]? = some (.cells (hexRow u j) 159 (0, 0))) ∧ Below G w wr) (fun a _ _ => (intOf a).toNat)
  case atStart =>
    refine ⟨0, ?_, ?_, by omega, Lib.hid hrow0, hbl⟩
    · simp
    · simp
  case round =>
    clear hrow0 hbl
    obtain ⟨j, rfl, rfl, hj, hR, hB⟩ := hrel
    obtain ⟨v, hv⟩ : ∃ v, v = u / 16 ^ j := ⟨_, rfl⟩
    have hvu : v ≤ u := by rw [hv]; exact Nat.div_le_self _ _
    have HV := Lib.hid hv
    rw [← hv]
    clear hv
    have hand := and64_15 v (by omega)
    have hz : (hexRow u j)[65 - j - 1]? = some (.int .u8 0) := by
      unfold hexRow
      rw [List.getElem?_toArray, List.getElem?_append_left (by simp; omega), List.getElem?_replicate, if_pos (by omega)]
    have hc : wr.cell? ⟨G, 65 - j - 1, none⟩ = some (.int .u8 0) := (cell_of_row wr G (65 - j - 1) _ _ _ hR.out).trans hz
    have hfr : wr.frozen? ⟨G, 65 - j - 1, none⟩ = false := frozen_of_row wr G (65 - j - 1) _ _ hR.out
    by_cases hlt : 16 ≤ v
    · have hlt2 : (16 : Int) ≤ (v : Int) := by omega
      go_wp2_with fail
      have hj13 := hex_place h2 HV.out hlt hj
      refine ⟨⟨j + 1, ?_, ?_, hj13, Lib.hid ?_, hB.setCell (Nat.le_refl _) _⟩, ?_⟩
      · rw [Nat.pow_succ, ← Nat.div_div_eq_div_mul, ← HV.out]
        rfl
      · congr 1
        omega
      · rw [← hexRow_set u j (by omega), ← HV.out]
        have h3 := heap_setCell_same wr G (65 - j - 1) (hexRow u j) 159 (bv (hexC (v % 16))) hR.out
        have h4 := hexT36_at (v % 16) (by omega) (by have : hexT36.size = 36 := (by decide); omega)
        rw [← h4] at h3
        rw [show 64 - j = 65 - j - 1 by omega, ← h4]
        exact h3
      · show ((v : Int) / 16).toNat < (v : Int).toNat
        omega
    · have hlt2 : ¬ (16 : Int) ≤ (v : Int) := by omega
      have hj13 : j = 13 := hex_last h1 HV.out hlt hj
      subst hj13
      have hv36 : 0 ≤ (v : Int) ∧ (v : Int) < 36 := by omega
      have hvu2 : v % 16 = v := Nat.mod_eq_of_lt (by omega)
      have h4 := hexT36_at v (by omega) (by have : hexT36.size = 36 := (by decide); omega)
      have hW : (wr.setCell ⟨G, 51, none⟩ (.int .u8 ((hexT36[v]'(by have : hexT36.size = 36 := (by decide); omega)).toNat : Int))).heap[G]? = some (.cells (hexRow u 14) 159 (0, 0)) := by
        rw [← hexRow_set u 13 (by omega), ← HV.out, h4, hvu2]
        exact heap_setCell_same wr G 51 (hexRow u 13) 159 (bv (hexC v)) hR.out
      have hcv := hex_back _ G (hexL u 14) (fun j hj => by
        rw [Lib.add_plain]
        refine (cell_of_row _ G (51 + j) _ _ _ hW).trans ?_
        unfold hexRow
        rw [List.getElem?_toArray, List.getElem?_append_right (by simp), List.length_replicate, show 51 + j - (65 - 14) = j by omega, List.getElem?_map, List.getElem?_eq_getElem hj]
        rfl)
      rw [hexL_len] at hcv
      have hB2 := hB.setCell (p := ⟨G, 51, none⟩) (Nat.le_refl _) (.int .u8 ((hexT36[v]'(by have : hexT36.size = 36 := (by decide); omega)).toNat : Int))
      have HB2 := Lib.hid hB2
      clear hB2 hW
      unfold hexT36 at hcv HB2
      go_wp2_with fail
      go_ret2
      rw [← HG.out]
      exact ⟨rfl, HB2.out⟩
theorem fmtu16_any (u : Nat) (h1 : 4503599627370496 ≤ u) (h2 : u < 9007199254740992) (w : World) (hT : Tab16 w) : Calls Tryz.prog 68 #[.int .u64 u, .int .i64 16] w fun e w' => e = .returned (.string (B (hexL u 14))) ∧ Below w.heap.size w w' := by
  have h0 := Lib.hid (fmtbits16_any u h1 h2 w hT)
  have h : Calls Tryz.prog 85 #[.int .u64 u, .int .i64 16] w fun e w' => e = .returned (.string (B (hexL u 14))) ∧ Below w.heap.size w w' := by
    go_enter Tryz.func85, Tryz.ntmps85
    go_wp2_with (first | (go_at_call 106; refine h0.out.mono ?_; rintro e w' ⟨rfl, hb⟩) | fail)
    go_ret
    exact ⟨rfl, hb⟩
  have h3 := Lib.hid h
  clear h h0
  go_enter Tryz.func68, Tryz.ntmps68
  go_wp2_with (first | (go_at_call 85; refine h3.out.mono ?_; rintro e w' ⟨rfl, hb⟩) | fail)
  go_ret
  exact ⟨rfl, hb⟩
end Go.Proofs.YtjdelpelnjhidaaGreatDoor.Pl
