/- plumblaw14.FtoaOne, walked. -/
import Derived.Test.YtjdelpelnjhidaaGreatDoorFtoK
namespace Go.Proofs.YtjdelpelnjhidaaGreatDoor.Pl
open Go.RowKit
theorem negB_lt {b : Nat} (hb : b < 18446744073709551616) : negB b < 18446744073709551616 := by unfold negB; split <;> omega
theorem negB_fin {b : Nat} (h : finP b) : finP (negB b) := by unfold finP negB at *; split <;> omega
theorem B_eq_iff (l m : List UInt8) : ((B l).toList == (B m).toList) = decide (l = m) := by
  rw [B_list, B_list]
  by_cases h : l = m
  · subst h; simp
  · simp [h]
/-- a finite pattern -/
structure Fin64 (b : Nat) : Prop where
  lt : b < 18446744073709551616
  fin : finP b
def TextsR (b mode : Nat) : Prop := b % 9223372036854775808 ≠ 0 → TextR (b % 9223372036854775808) mode (textU (b % 9223372036854775808) mode)
theorem text_fin (b mode : Nat) (w : World) (hb : Fin64 b) (h : 1 ≤ mode ∧ mode < 4) (hS : Std w) : Calls Tryz.prog 8 #[.int .u64 b, .int .i64 mode] w fun e w' => (e = .returned (.tuple #[.string (B (textT b mode)), .int .i64 0]) ∧ TextsR b mode ∧ (B (textT b mode)).size ≤ 61) ∧ Below w.heap.size w w' := by
  refine (text_any b mode w hb.lt hb.fin h hS).mono ?_
  rintro e w' ⟨⟨he, ht⟩, hw⟩
  exact ⟨⟨he, ht, by rw [B_size]; exact textT_len mode hb.fin⟩, hw⟩
theorem finite_fin (b : Nat) (w : World) (hb : b < 18446744073709551616) : Calls Tryz.prog 7 #[.int .u64 b] w fun e w' => (∃ x : Nat, e = .returned (.int .u64 x) ∧ Fin64 x) ∧ w' = w := by
  refine (finite_any b w hb).mono ?_
  rintro e w' ⟨rfl, hw⟩
  exact ⟨⟨_, rfl, finB_lt hb, finB_fin b⟩, hw⟩
theorem neg_fin (b : Nat) (w : World) (hb : Fin64 b) : Calls Tryz.prog 12 #[.int .u64 b] w fun e w' => (∃ x : Nat, e = .returned (.int .u64 x) ∧ Fin64 x ∧ x = negB b) ∧ w' = w := by
  refine (neg_any b w hb.lt).mono ?_
  rintro e w' ⟨rfl, hw⟩
  exact ⟨⟨_, rfl, ⟨negB_lt hb.lt, negB_fin hb.fin⟩, rfl⟩, hw⟩
theorem text_neg {x z m : Nat} (hx : x < 18446744073709551616) (hz : z = negB x) : (9223372036854775808 ≤ x → textT x m = [45] ++ textT z m) ∧ (¬ 9223372036854775808 ≤ x → textT z m = [45] ++ textT x m) := by
  unfold negB at hz
  rw [textT_size, textT_size]
  constructor
  · intro h
    rw [if_pos h] at hz
    rw [if_pos (by omega), if_neg (by omega), show x % 9223372036854775808 = z % 9223372036854775808 by omega]
    rfl
  · intro h
    rw [if_neg h] at hz
    rw [if_pos (by omega), if_neg (by omega), show x % 9223372036854775808 = z % 9223372036854775808 by omega]
    rfl
theorem one_same {l m : List UInt8} (e : l = [45] ++ m) (h : (!(B l).toList == ((⟨#[45]⟩ : ByteArray) ++ B m).toList) = true) : False := by
  rw [show (⟨#[45]⟩ : ByteArray) = B [45] from rfl, B_add, ← e] at h
  simp at h
theorem one_bad1 {x z m : Nat} (h : (!(B (textT x m)).toList == ((⟨#[45]⟩ : ByteArray) ++ B (textT z m)).toList) = true) (hge : 9223372036854775808 ≤ x) (hz : z = negB x) (hx : x < 18446744073709551616) : False := one_same ((text_neg hx hz).1 hge) h
theorem one_bad2 {x z m : Nat} (h : (!(B (textT z m)).toList == ((⟨#[45]⟩ : ByteArray) ++ B (textT x m)).toList) = true) (hge : ¬ 9223372036854775808 ≤ x) (hz : z = negB x) (hx : x < 18446744073709551616) : False := one_same ((text_neg hx hz).2 hge) h
set_option maxRecDepth 100000 in
set_option maxHeartbeats 8000000 in
theorem one_walk (b c : Nat) (w : World) (hb : b < 18446744073709551616) (hc : c < 18446744073709551616) (hS : Std w) : Calls Tryz.prog 4 #[.int .u64 b, .int .u64 c] w fun e w' => e = .returned (.bool true) ∧ Below w.heap.size w w' := by
  have hfi := fun b w hb => Lib.hid (finite_fin b w hb)
  have ha := Lib.hid (alive_ok w hS)
  have hng := fun b w hb => Lib.hid (neg_fin b w hb)
  have hT := fun b m w hb h hS => Lib.hid (text_fin b m w hb h hS)
  go_enter Tryz.func4, Tryz.ntmps4
  go_wp2_with (first
    | (go_at_call 7; refine (hfi _ _ (by assumption)).out.mono ?_; rintro e w1 ⟨⟨x, rfl, hx⟩, hw1⟩; rw [hw1]; clear hw1)
    | (go_at_call 9; refine ha.out.mono ?_; rintro e w2 ⟨rfl, hbw⟩)
    | fail)
  have hS2 := hS.below hbw
  rename_i xx hxx _ _
  go_loopw [5] (fun a wr => ∃ m : Nat, a = .int .i64 m ∧ 1 ≤ m ∧ m ≤ 4 ∧ Std wr ∧ Below w.heap.size w wr) (fun a _ => (4 - intOf a).toNat)
  case atStart => exact ⟨1, rfl, by omega, by omega, hS2, hbw⟩
  case round =>
    clear hS hS2 hbw ha hfi
    obtain ⟨m, rfl, hm1, hm2, hSr, hBr⟩ := hrel
    have hh3 : m ≤ 3 → 1 ≤ m ∧ m < 4 := fun h => ⟨hm1, by omega⟩
    by_cases hlt : m ≤ 3
    · have hlt2 : (m : Int) ≤ 3 := by omega
      have hm4 := hh3 hlt
      by_cases hxy : xx = x
      · subst hxy
        have HNE : Hid (TextsR xx m → TextsR xx m → True) := Lib.hid (fun _ _ => trivial)
        by_cases hge : 9223372036854775808 ≤ xx
        · have hge2 : (9223372036854775808 : Int) ≤ (xx : Int) := by omega
          have HGE := Lib.hid hge
          clear hge
          go_wp2_with (first
            | (go_at_call 8; refine (hT _ _ _ (by assumption) hm4 (by assumption)).out.mono ?_; rintro e w3 ⟨⟨rfl, hz, hzl⟩, hbz⟩; have hSb := Std.below (by assumption) hbz; try (have hne := HNE.out (by assumption) (by assumption)))
            | (go_at_call 12; refine (hng _ _ (by assumption)).out.mono ?_; rintro e w1 ⟨⟨z, rfl, hz1, hz2⟩, hw1⟩; rw [hw1]; clear hw1; have HZ := Lib.hid hz2; clear hz2)
            | fail)
          all_goals first
            | (refine ⟨⟨m + 1, by rw [Int.natCast_add]; rfl, by omega, by omega, hSb, below4 hBr (by assumption) (by assumption) (by assumption)⟩, ?_⟩
               show (4 - ((m : Int) + 1)).toNat < (4 - (m : Int)).toNat
               omega)
            | (exfalso; first | exact one_bad1 (by assumption) HGE.out HZ.out hxx.lt | exact one_bad2 (by assumption) HGE.out HZ.out hxx.lt)
        · have hge2 : decide ((9223372036854775808 : Int) ≤ (xx : Int)) = false := decide_eq_false (by omega)
          have HGE := Lib.hid hge
          clear hge
          go_wp2_with (first
            | (go_at_call 8; refine (hT _ _ _ (by assumption) hm4 (by assumption)).out.mono ?_; rintro e w3 ⟨⟨rfl, hz, hzl⟩, hbz⟩; have hSb := Std.below (by assumption) hbz; try (have hne := HNE.out (by assumption) (by assumption)))
            | (go_at_call 12; refine (hng _ _ (by assumption)).out.mono ?_; rintro e w1 ⟨⟨z, rfl, hz1, hz2⟩, hw1⟩; rw [hw1]; clear hw1; have HZ := Lib.hid hz2; clear hz2)
            | fail)
          all_goals first
            | (refine ⟨⟨m + 1, by rw [Int.natCast_add]; rfl, by omega, by omega, hSb, below4 hBr (by assumption) (by assumption) (by assumption)⟩, ?_⟩
               show (4 - ((m : Int) + 1)).toNat < (4 - (m : Int)).toNat
               omega)
            | (exfalso; first | exact one_bad1 (by assumption) HGE.out HZ.out hxx.lt | exact one_bad2 (by assumption) HGE.out HZ.out hxx.lt)
      · have HNE : Hid (TextsR xx m → TextsR x m → ((B (textT xx m)).toList == (B (textT x m)).toList) = false) := Lib.hid (fun h1 h2 => by
          rw [B_eq_iff]
          exact decide_eq_false (fun h => hxy (textT_inj hxx.lt hx.lt hm4 h1 h2 h)))
        have hxy2 : ¬ (xx : Int) = (x : Int) := by omega
        have hxy3 : ((xx : Int) == (x : Int)) = false := by simpa using hxy2
        by_cases hge : 9223372036854775808 ≤ xx
        · have hge2 : (9223372036854775808 : Int) ≤ (xx : Int) := by omega
          have HGE := Lib.hid hge
          clear hge
          go_wp2_with (first
            | (go_at_call 8; refine (hT _ _ _ (by assumption) hm4 (by assumption)).out.mono ?_; rintro e w3 ⟨⟨rfl, hz, hzl⟩, hbz⟩; have hSb := Std.below (by assumption) hbz; try (have hne := HNE.out (by assumption) (by assumption)))
            | (go_at_call 12; refine (hng _ _ (by assumption)).out.mono ?_; rintro e w1 ⟨⟨z, rfl, hz1, hz2⟩, hw1⟩; rw [hw1]; clear hw1; have HZ := Lib.hid hz2; clear hz2)
            | fail)
          all_goals first
            | (refine ⟨⟨m + 1, by rw [Int.natCast_add]; rfl, by omega, by omega, hSb, below4 hBr (by assumption) (by assumption) (by assumption)⟩, ?_⟩
               show (4 - ((m : Int) + 1)).toNat < (4 - (m : Int)).toNat
               omega)
            | (exfalso; first | exact one_bad1 (by assumption) HGE.out HZ.out hxx.lt | exact one_bad2 (by assumption) HGE.out HZ.out hxx.lt)
        · have hge2 : decide ((9223372036854775808 : Int) ≤ (xx : Int)) = false := decide_eq_false (by omega)
          have HGE := Lib.hid hge
          clear hge
          go_wp2_with (first
            | (go_at_call 8; refine (hT _ _ _ (by assumption) hm4 (by assumption)).out.mono ?_; rintro e w3 ⟨⟨rfl, hz, hzl⟩, hbz⟩; have hSb := Std.below (by assumption) hbz; try (have hne := HNE.out (by assumption) (by assumption)))
            | (go_at_call 12; refine (hng _ _ (by assumption)).out.mono ?_; rintro e w1 ⟨⟨z, rfl, hz1, hz2⟩, hw1⟩; rw [hw1]; clear hw1; have HZ := Lib.hid hz2; clear hz2)
            | fail)
          all_goals first
            | (refine ⟨⟨m + 1, by rw [Int.natCast_add]; rfl, by omega, by omega, hSb, below4 hBr (by assumption) (by assumption) (by assumption)⟩, ?_⟩
               show (4 - ((m : Int) + 1)).toNat < (4 - (m : Int)).toNat
               omega)
            | (exfalso; first | exact one_bad1 (by assumption) HGE.out HZ.out hxx.lt | exact one_bad2 (by assumption) HGE.out HZ.out hxx.lt)
    · obtain rfl : m = 4 := by omega
      go_wp2_with fail
      go_ret
      exact ⟨rfl, hBr⟩
end Go.Proofs.YtjdelpelnjhidaaGreatDoor.Pl
