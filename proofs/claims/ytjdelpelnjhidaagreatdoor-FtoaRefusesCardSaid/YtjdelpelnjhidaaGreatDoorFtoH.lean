/- ftoa.size's hex, walked. -/
import Derived.Test.YtjdelpelnjhidaaGreatDoorFtoU
namespace Go.Proofs.YtjdelpelnjhidaaGreatDoor.Pl
open Go.RowKit
/-- the digits behind the point -/
def hexS (m : Nat) : List UInt8 := Lib.trimRightB ((hexL m 14).drop 1) 48
def hexX (m : Nat) (x : Int) : List UInt8 := [48, 120, 49] ++ (if hexS m = [] then [] else 46 :: hexS m) ++ [112] ++ (if x < 0 then [] else [43]) ++ Lib.itoa x
def HexR (b m : Nat) (x : Int) : Prop := ∃ k : Nat, m = mantP b * 2 ^ k ∧ x = expP b - k + 52 ∧ 4503599627370496 ≤ m ∧ m < 9007199254740992
theorem Tab16.below {w w' : World} (h : Tab16 w) (k : Below w.heap.size w w') : Tab16 w' := fun g hg => (k.cell (by have := h g hg; exact lt_of_cell this)).trans (h g hg)
theorem trimR_len (l : List UInt8) (c : UInt8) : (Lib.trimRightB l c).length ≤ l.length := by
  unfold Lib.trimRightB
  rw [List.length_reverse]
  exact Nat.le_trans (List.dropWhile_sublist _).length_le (by rw [List.length_reverse]; exact Nat.le_refl _)
theorem itoa_size (x : Int) (h1 : -2000 ≤ x) (h2 : x ≤ 2000) : (B (Lib.itoa x)).size ≤ 21 := by
  rw [B_size]
  by_cases h : 0 ≤ x
  · obtain ⟨m, rfl⟩ := Int.eq_ofNat_of_zero_le h
    have := itoa_len m (by omega)
    omega
  · obtain ⟨m, hm⟩ := Int.eq_ofNat_of_zero_le (by omega : 0 ≤ -x)
    obtain rfl : x = -(m : Int) := by omega
    rw [Lib.itoa_neg m (by omega), List.length_cons]
    have := (dec_len (d := m) (by omega) (by omega)).2
    omega
theorem HexK {m M k : Nat} (h : m = M * 2 ^ k) (h0 : 0 < m) (h1 : m < 4503599627370496) (hM : 0 < M) : k < 52 := by
  apply Classical.byContradiction
  intro hc
  have h2 : (2 : Nat) ^ 52 ≤ 2 ^ k := Nat.pow_le_pow_right (by decide) (by omega)
  have h3 : 1 * 2 ^ k ≤ M * 2 ^ k := Nat.mul_le_mul_right _ hM
  have h4 : (2 : Nat) ^ 52 = 4503599627370496 := by decide
  omega
set_option maxRecDepth 100000 in
set_option maxHeartbeats 8000000 in
theorem hex_text (b : Nat) (w : World) (hb : b < 9223372036854775808) (h0 : b ≠ 0) (hf : finP b) (htab : Tab10 w) (hT : Tab16 w) : Calls Tryz.prog 49 #[.int .u64 b] w fun e w' => (∃ m x, e = .returned (.string (B (hexX m x))) ∧ HexR b m x) ∧ Below w.heap.size w w' := by
  have hmp := mantP_pos hb h0
  have hml := mantP_lt b
  have hel := expP_lo b
  have heh := expP_hi hf
  have HSP := fun w => Lib.hid (split_any b w (by omega) hf)
  obtain ⟨M, hM⟩ : ∃ m, m = mantP b := ⟨_, rfl⟩
  obtain ⟨E, hE⟩ : ∃ m, m = expP b := ⟨_, rfl⟩
  rw [← hM, ← hE] at HSP
  rw [← hM] at hmp hml
  rw [← hE] at hel heh
  have HM := Lib.hid hM
  have HE := Lib.hid hE
  clear hM hE
  go_enter Tryz.func49, Tryz.ntmps49
  go_wp2_with (first
    | (go_at_call 67; refine (HSP _).out.mono ?_; rintro e w2 ⟨⟨ng, rfl⟩, hw2⟩; subst hw2)
    | fail)
  go_loopw [4, 5] (fun a x wr => ∃ m k : Nat, a = .int .u64 m ∧ x = .int .i64 (E - k) ∧ Hid (m = M * 2 ^ k) ∧ 0 < m ∧ m < 9007199254740992 ∧ k ≤ 53 ∧ wr = w2) (fun a _ _ => (9007199254740992 - intOf a).toNat)
  case atStart => refine ⟨M, 0, rfl, by simp, Lib.hid (by simp), by omega, by omega, by omega, rfl⟩
  case round =>
    obtain ⟨m, k, rfl, rfl, hm, hm0, hm1, hk, rfl⟩ := hrel
    by_cases hlt : m < 4503599627370496
    · have hlt2 : (m : Int) < 4503599627370496 := by omega
      obtain ⟨n, hn⟩ : ∃ n, n = m * 2 := ⟨_, rfl⟩
      have hsh : IntKind.u64.wrap ((m : Int) * 2) = (n : Int) := by rw [IntKind.wrap_u64]; omega
      have HN := Lib.hid hn
      clear hn
      go_wp2_with fail
      all_goals (have hkk := HexK hm.out hm0 hlt hmp)
      refine ⟨⟨n, k + 1, rfl, by congr 1; omega, Lib.hid (by rw [HN.out, hm.out, Nat.pow_succ, Nat.mul_assoc]), by have := HN.out; omega, by have := HN.out; omega, by omega, trivial⟩, ?_⟩
      show (9007199254740992 - (n : Int)).toNat < (9007199254740992 - (m : Int)).toNat
      have := HN.out
      omega
    · have hlt2 : ¬ (m : Int) < 4503599627370496 := by omega
      have hfu := Lib.hid (fmtu16_any m (by omega) hm1 wr hT)
      obtain ⟨L, hL⟩ : ∃ L, L = hexL m 14 := ⟨_, rfl⟩
      have hLl : L.length = 14 := by rw [hL]; exact hexL_len m 14
      rw [← hL] at hfu
      have HL := Lib.hid hL
      clear hL
      have hbs := B_size L
      have hx1 : (B L).extract 1 14 = B L.tail := by have := B_drop L 1; rw [hbs, hLl, List.drop_one] at this; exact this
      have htr := fun w => Lib.hid (Tryz.strings_TrimRight_one (B L.tail) 48 (by decide) w (by rw [B_size, List.length_tail]; omega))
      obtain ⟨D, hD⟩ : ∃ D, D = Lib.trimRightB L.tail 48 := ⟨_, rfl⟩
      have hD2 : (⟨(Lib.trimRightB (B L.tail).data.toList 48).toArray⟩ : ByteArray) = B D := by rw [hD]; simp [B]
      rw [hD2] at htr
      clear hD2
      have hDs : (B D).size ≤ 14 := by
        rw [B_size, hD]
        have := trimR_len L.tail 48
        rw [List.length_tail] at this
        omega
      have HD := Lib.hid hD
      clear hD
      have hDn := B_list_nil D
      have hit := fun x w (h : Tab10 w) (h1 : -2000 ≤ x) (h2 : x ≤ 2000) => Lib.hid (itoa_any x (by omega) (by omega) w h)
      go_wp2_with (first
        | (go_at_call 68; refine hfu.out.mono ?_; rintro e w2 ⟨rfl, hb2⟩; have ht2 := htab.below hb2)
        | (go_at_call 69; refine (htr _).out.mono ?_; rintro e w3 ⟨rfl, hw3⟩; subst hw3)
        | (go_at_call 70; refine (hit _ _ ht2 (by omega) (by omega)).out.mono ?_; rintro e w4 ⟨rfl, hb4⟩; have hIs := itoa_size (E - k + 52) (by omega) (by omega))
        | fail)
      all_goals go_ret
      all_goals refine ⟨⟨m, E - k + 52, ?_, k, HM.out ▸ hm.out, by rw [HE.out], by omega, hm1⟩, below2 hb2 hb4⟩
      all_goals
        refine congrArg (fun s => Ending.returned (Value.string s)) (?_ : _ = B _)
        have hS : hexS m = D := by unfold hexS; rw [← HL.out, List.drop_one, HD.out]
        have hc4 : (⟨#[48, 120, 49, 46]⟩ : ByteArray) = B [48, 120, 49, 46] := rfl
        have hc3 : (⟨#[48, 120, 49]⟩ : ByteArray) = B [48, 120, 49] := rfl
        have hp : (⟨#[112]⟩ : ByteArray) = B [112] := rfl
        have hp2 : (⟨#[112, 43]⟩ : ByteArray) = B [112, 43] := rfl
        unfold hexX
        rw [hS]
        try rw [hc4]
        try rw [hc3]
        try rw [hp]
        try rw [hp2]
        rw [B_add, B_add]
        try rw [B_add]
        congr 1
        first
          | rw [if_pos (by omega : E - (k : Int) + 52 < 0)]
          | rw [if_neg (by omega : ¬ E - (k : Int) + 52 < 0)]
        have hne : ∀ v, (!(B D).toList.isEmpty) = v → (v = true → D ≠ []) ∧ (v = false → D = []) := fun v h => by
          rw [B_list] at h
          cases D with
          | nil => exact ⟨fun hv => by rw [hv] at h; exact absurd h (by decide), fun _ => rfl⟩
          | cons c l => exact ⟨fun _ => by simp, fun hv => by rw [hv] at h; exact absurd h (by simp)⟩
        first
          | (rw [if_neg ((hne true (by assumption)).1 rfl)]; simp; done)
          | (rw [if_pos ((hne false (by assumption)).2 rfl)]; simp; done)
end Go.Proofs.YtjdelpelnjhidaaGreatDoor.Pl
