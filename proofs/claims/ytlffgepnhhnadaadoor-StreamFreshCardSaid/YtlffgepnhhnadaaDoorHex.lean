/- octet.Hex, walked. -/
import Derived.Test.YtlffgepnhhnadaaDoorEqual
namespace Go.Proofs.YtlffgepnhhnadaaDoor.Pl
open Go.RowKit

def hexD (n : Nat) : UInt8 := if n < 10 then UInt8.ofNat (48 + n) else UInt8.ofNat (87 + n)
def hexB (l : List UInt8) : List UInt8 := l.flatMap fun c => [hexD (c.toNat / 16), hexD (c.toNat % 16)]

def hexT : ByteArray := ⟨#[48, 49, 50, 51, 52, 53, 54, 55, 56, 57, 97, 98, 99, 100, 101, 102]⟩
theorem hexT_all : ∀ n : Fin 16, hexT[n.val]'n.isLt = hexD n.val := by decide
theorem hexT_at (n : Nat) (h : n < 16) : hexT[n]'h = hexD n := hexT_all ⟨n, h⟩
theorem hexB_length (l : List UInt8) : (hexB l).length = 2 * l.length := by
  induction l with
  | nil => rfl
  | cons c l ih => simp only [hexB, List.flatMap_cons, List.length_append, List.length_cons, List.length_nil] at ih ⊢; omega
theorem hexB_next {l : List UInt8} {k : Nat} {c : UInt8} (h : l[k]? = some c) : hexB (l.take (k + 1)) = hexB (l.take k) ++ [hexD (c.toNat / 16), hexD (c.toNat % 16)] := by
  rw [List.take_add_one, h]; simp [hexB]
theorem two_bytes (w : World) (a b : UInt8) : OwnB w.heap.size (w.alloc (.cells #[.int .u8 a.toNat, .int .u8 b.toNat] 5)) (.slice (some ⟨w.heap.size, 0, none⟩) 2 2) [a, b] :=
  ⟨rfl, .inr ⟨w.heap.size, 2, #[.int .u8 a.toNat, .int .u8 b.toNat], rfl, Nat.le_refl _, World.alloc_heap_new _ _, Nat.le_refl _, by unfold maxLen; omega, rfl, rfl⟩⟩
theorem and8_15 (x : Nat) (hx : x < 256) : bits .and .u8 (x : Int) 15 = ((x % 16 : Nat) : Int) := by
  have h1 : (BitVec.ofInt 8 (x : Int)).toNat = x := by
    rw [BitVec.ofInt_natCast, BitVec.toNat_ofNat]; exact Nat.mod_eq_of_lt hx
  have h2 : (BitVec.ofInt 8 (15 : Int)).toNat = 15 := by decide
  show IntKind.u8.wrap ((BitVec.ofInt 8 (x : Int) &&& BitVec.ofInt 8 (15 : Int)).toNat : Int) = _
  rw [BitVec.toNat_and, h1, h2, show (15 : Nat) = 2 ^ 4 - 1 from rfl, Nat.and_two_pow_sub_one_eq_mod]
  simp [IntKind.wrap, IntKind.bits, IntKind.signed]
  omega

theorem own_two {B : Nat} {w : World} {v : Value} {l : List UInt8} {a b c d : UInt8} (h : OwnB B w v (l ++ [a, b])) (h1 : a = c) (h2 : b = d) : OwnB B w v (l ++ [c, d]) := by subst h1 h2; exact h

set_option maxRecDepth 100000 in
theorem Hex_any {ok : Nat → Prop} {v : Value} {l : List UInt8} (w : World) (hv : Bytes ok w v l) (hl : l.length ≤ 1073741824) (hne : l ≠ []) :
    Calls Tryd.prog 47 #[v] w fun e w' => e = .returned (.string ⟨(hexB l).toArray⟩) ∧ Below w.heap.size w w' := by
  obtain ⟨A, c, rfl, hc, hl2, hrow⟩ := hv
  have HR := Lib.hid hrow
  clear hrow
  have hw2 : IntKind.i64.wrap (2 * (l.length : Int)) = 2 * (l.length : Int) := by rw [IntKind.wrap_i64]; omega
  obtain ⟨i0, hi, hz0, hz1, hz2⟩ := info_parts Tryd.info5x
  obtain ⟨w1, hmk, hown, hgr⟩ := run_make_own (P := Tryd.prog) w w.heap.size 35 5 i0 (.int .u8 0) 1 Tryd.underlying35 hi hz0 hz1 .i64 .i64 (2 * l.length) (by rw [hz2]; omega) (by unfold maxLen; omega) (Nat.le_refl _)
  rw [show ((2 * l.length : Nat) : Int) = 2 * (l.length : Int) by omega] at hmk
  have HO := Lib.hid (And.intro (show OwnB w.heap.size w1 _ [] from hown) ((Below.refl w.heap.size w).grown hgr (Nat.le_refl _) (fun _ e => by cases e)))
  clear hown hgr hi hz0 hz1 hz2
  go_enter Tryd.func47, Tryd.ntmps47
  go_wp2_with fail
  go_loopw [12, 3] (fun i x W => ∃ k : Nat, k ≤ l.length ∧ i = .int .i64 k ∧ Hid (OwnB w.heap.size W x (hexB (l.take k)) ∧ Below w.heap.size w W)) (fun i _ _ => l.length - (intOf i).toNat)
  case atStart => exact ⟨0, Nat.zero_le _, rfl, Lib.hid ⟨by simpa [hexB] using HO.out.1, HO.out.2⟩⟩
  case round =>
    obtain ⟨k, hk, rfl, HR2⟩ := hrel
    by_cases hkl : k < l.length
    · have hp : l[k]? = some l[k] := List.getElem?_eq_getElem hkl
      obtain ⟨b, o, rfl, _, _, hcell⟩ := (HR.out.keeps (below_keeps HR2.out.2 ok)).at (by intro e; have h := congrArg List.length e; rw [List.length_map] at h; simp only [List.length_nil] at h; omega)
      have cc := hcell k (bv l[k]) (by simp [hp])
      simp only [bv] at cc
      clear hcell
      have hnx := hexB_next hp
      have hdl := l[k].toNat_lt
      generalize l[k].toNat = x at cc hdl hnx
      have hlk : (hexB (l.take k)).length ≤ 2 * l.length := by rw [hexB_length, List.length_take]; omega
      have HNX := Lib.hid hnx
      clear hnx hp
      have HAL := Lib.hid (fun C => (show Below wr.heap.size wr (wr.drew.alloc C) from by have h := (Below.refl wr.heap.size wr.drew).alloc (Nat.le_refl _) C; exact ⟨h.os, h.tape, h.output, h.size, h.block⟩))
      have hand : bits .and .u8 (x : Int) 15 = (x : Int) % 16 := by rw [and8_15 x hdl]; omega
      have ha1 : 0 ≤ (x : Int) / 16 ∧ (x : Int) / 16 < 16 := by omega
      have ha2 : 0 ≤ (x : Int) % 16 ∧ (x : Int) % 16 < 16 := by omega
      go_wp2_with fail
      go_region_law (
        refine step_append rfl (.tmp 16) (.tmp 23) rfl u3 _ (by rfl) (by rfl) (ownsRow_below HR2.out.1 (HAL.out _)) (two_bytes wr.drew _ _) (by simp) (by simp only [List.length_cons, List.length_nil]; omega) (Nat.le_trans HR2.out.2.size (HAL.out _).size) ?_
        intro g3 cap3 w4 ho3 hgr3 hg3 hlt3
        have HR3 := Lib.hid (And.intro ho3 hgr3)
        clear ho3 hgr3 hg3 hlt3)
      all_goals
        go_wp2_with fail
        go_roundw
        · refine ⟨k + 1, hkl, by simp, Lib.hid ⟨?_, ?_⟩⟩
          · rw [HNX.out]
            have h := HR3.out.1
            have e1 := hexT_at ((x : Int) / 16).toNat (by omega)
            have e2 := hexT_at ((x : Int) % 16).toNat (by omega)
            exact own_two h (e1.trans (congrArg hexD (show ((x : Int) / 16).toNat = x / 16 by omega))) (e2.trans (congrArg hexD (show ((x : Int) % 16).toNat = x % 16 by omega)))
          · exact (HR2.out.2.trans ((HAL.out _).mono HR2.out.2.size)).grown HR3.out.2 (Nat.le_trans HR2.out.2.size (HAL.out _).size) (fun k e => (World.ownsRow.lt HR2.out.1 k e).1)
        · simp [intOf]; omega
    · have hke : l.take k = l := List.take_of_length_le (by omega)
      rw [hke] at HR2
      have hn2 : hexB l ≠ [] := by intro e; have h := hexB_length l; rw [e] at h; simp only [List.length_nil] at h; have := List.length_pos_iff.2 hne; omega
      obtain ⟨g, cap, rfl, _, _, _⟩ := HR2.out.1.form hn2
      have hcv := conv_take (HR2.out.1.bytes (by rw [hexB_length]; omega)) (hexB l).length (Nat.le_refl _) hn2
      rw [List.take_of_length_le (Nat.le_refl _)] at hcv
      clear hke hn2
      go_wp2_with fail
      go_ret
      exact ⟨rfl, HR2.out.2⟩
end Go.Proofs.YtlffgepnhhnadaaDoor.Pl
