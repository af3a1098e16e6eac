/- Plain: the intervals of two patterns are apart; one text, one pattern. -/
import Derived.Test.YtjdelpelnjhidaaGreatDoorFtoU
namespace Go.Proofs.YtjdelpelnjhidaaGreatDoor.Pl
open Go.RowKit
def hiV (b : Nat) : Nat := (4 * mantP b + 2) * 2 ^ (expP b + 1074).toNat
def loV (b : Nat) : Nat := (4 * mantP b - belowP b) * 2 ^ (expP b + 1074).toNat
def heV (b : Nat) : Nat := 4 * mantP b * 2 ^ (expP b + 1074).toNat
theorem lo_he {b : Nat} (hm : 0 < mantP b) : loV b < heV b := by
  unfold loV heV
  refine Nat.mul_lt_mul_of_pos_right ?_ (Nat.two_pow_pos _)
  have := belowP_le b
  omega
theorem he_hi (b : Nat) : heV b < hiV b := by
  unfold hiV heV
  exact Nat.mul_lt_mul_of_pos_right (by omega) (Nat.two_pow_pos _)
theorem hi_lo {b : Nat} (h : b + 1 < 9223372036854775808) : hiV b = loV (b + 1) := by
  by_cases h1 : b % 4503599627370496 + 1 < 4503599627370496
  · have hq : (b + 1) / 4503599627370496 = b / 4503599627370496 := by omega
    have hf : (b + 1) % 4503599627370496 = b % 4503599627370496 + 1 := by omega
    have he : expP (b + 1) = expP b := by unfold expP; rw [hq]
    have hm : mantP (b + 1) = mantP b + 1 := by unfold mantP; rw [hq, hf]; split <;> omega
    have hb : belowP (b + 1) = 2 := by
      unfold belowP
      rw [if_neg]
      intro ⟨h2, h3⟩
      rw [he] at h3
      rw [hm] at h2
      unfold mantP at h2
      unfold expP at h3
      split at h2
      · omega
      · omega
    unfold hiV loV
    rw [he, hm, hb]
    congr 1
  · have hq : (b + 1) / 4503599627370496 = b / 4503599627370496 + 1 := by omega
    have hf : (b + 1) % 4503599627370496 = 0 := by omega
    have hf0 : b % 4503599627370496 = 4503599627370495 := by omega
    have hm : mantP (b + 1) = 4503599627370496 := by unfold mantP; rw [hq, hf, if_neg (by omega)]
    have he : expP (b + 1) = ((b / 4503599627370496 : Nat) : Int) - 1074 := by unfold expP; rw [hq, if_neg (by omega)]; omega
    by_cases h0 : b / 4503599627370496 = 0
    · have hm0 : mantP b = 4503599627370495 := by unfold mantP; rw [h0, hf0]; rfl
      have he0 : expP b = -1074 := by unfold expP; rw [h0]; rfl
      have hb : belowP (b + 1) = 2 := by
        unfold belowP
        rw [if_neg]
        rw [he, h0]
        omega
      unfold hiV loV
      rw [hb, hm, he, hm0, he0, h0]
      rfl
    · have hm0 : mantP b = 9007199254740991 := by unfold mantP; rw [hf0, if_neg (by omega)]
      have he0 : expP b = ((b / 4503599627370496 : Nat) : Int) - 1075 := by unfold expP; rw [if_neg (by omega)]; omega
      have hb : belowP (b + 1) = 1 := by
        unfold belowP
        rw [if_pos]
        rw [he, hm]
        omega
      unfold hiV loV
      rw [hb, hm, he, hm0, he0, show (((b / 4503599627370496 : Nat) : Int) - 1074 + 1074).toNat = (((b / 4503599627370496 : Nat) : Int) - 1075 + 1074).toNat + 1 by omega, Nat.pow_succ]
      omega
theorem lo_hi_lt (b : Nat) : loV b < hiV b := by
  unfold loV hiV
  refine Nat.mul_lt_mul_of_pos_right ?_ (Nat.two_pow_pos _)
  omega
theorem apart {b : Nat} : ∀ n : Nat, b + 1 + n < 9223372036854775808 → hiV b ≤ loV (b + 1 + n) ∧ (0 < n → hiV b < loV (b + 1 + n))
  | 0, h => ⟨Nat.le_of_eq (hi_lo h), fun h => absurd h (by omega)⟩
  | n + 1, h => by
    have h1 := (apart (b := b) n (by omega)).1
    have h2 := lo_hi_lt (b + 1 + n)
    have h3 := hi_lo (b := b + 1 + n) (by omega)
    rw [show b + 1 + (n + 1) = b + 1 + n + 1 by omega, ← h3]
    exact ⟨by omega, fun _ => by omega⟩
theorem he_inj {b c : Nat} (hb : b < 9223372036854775808) (hc : c < 9223372036854775808) (h : heV b = heV c) (hb0 : b ≠ 0) (hc0 : c ≠ 0) : b = c := by
  have key : ∀ b c : Nat, c < 9223372036854775808 → c ≠ 0 → heV b = heV c → ¬ b < c := fun b c hc hc0 h hlt => by
    obtain ⟨n, hn⟩ : ∃ n, c = b + 1 + n := ⟨c - (b + 1), by omega⟩
    subst hn
    have h1 := (apart (b := b) n hc).1
    have h2 := he_hi b
    have h3 := lo_he (mantP_pos hc hc0)
    omega
  have h1 := key b c hc hc0 h
  have h2 := key c b hb hb0 h.symm
  omega
theorem pow_scale {T Z N P Q R D A V : Nat} (h : N * Z = V * D) (hPQ : Q * T = R * P) : N * P * (Z * T) = V * T * (D * P) ∧ A * (D * Q) * (Z * T) = A * R * Z * (D * P) := by
  constructor
  · calc N * P * (Z * T) = (N * Z) * (P * T) := by grind
      _ = V * D * (P * T) := by rw [h]
      _ = V * T * (D * P) := by grind
  · calc A * (D * Q) * (Z * T) = A * D * Z * (Q * T) := by grind
      _ = A * D * Z * (R * P) := by rw [hPQ]
      _ = A * R * Z * (D * P) := by grind
/-- within the interval, in units that do not hang on the pattern -/
theorem within_scaled {b d k : Nat} {e x : Int} {T Z a z : Nat} (ha : a = 400) (hz : z = 1076) (hT : T = 10 ^ a) (hZ : Z = 2 ^ z) (hx : x = e + k) (h400 : -400 ≤ x) (h : okE b e (d * 10 ^ k) = true) :
    (loV b * T < d * 10 ^ (x + 400).toNat * Z ∧ d * 10 ^ (x + 400).toNat * Z < hiV b * T) ∨ (b % 2 = 0 ∧ loV b * T ≤ d * 10 ^ (x + 400).toNat * Z ∧ d * 10 ^ (x + 400).toNat * Z ≤ hiV b * T) := by
  have hE := expP_lo b
  have hlo : loN b * Z = loV b * deN b := by
    unfold loN loV deN
    rw [hZ, Nat.mul_assoc, Nat.mul_assoc, ← Nat.pow_add, ← Nat.pow_add]
    congr 2
    omega
  have hhi : hiN b * Z = hiV b * deN b := by
    unfold hiN hiV deN
    rw [hZ, Nat.mul_assoc, Nat.mul_assoc, ← Nat.pow_add, ← Nat.pow_add]
    congr 2
    omega
  have hPQ : 10 ^ k * 10 ^ e.toNat * T = 10 ^ (x + 400).toNat * 10 ^ (-e).toNat := by
    rw [hT, ← Nat.pow_add, ← Nat.pow_add, ← Nat.pow_add]
    congr 1
    omega
  have hTp : 0 < T := by rw [hT]; exact Nat.pow_pos (by decide)
  have hZp : 0 < Z := by rw [hZ]; exact Nat.two_pow_pos _
  have hDp : 0 < deN b * 10 ^ (-e).toNat := Nat.mul_pos (deN_pos b) (Nat.pow_pos (by decide))
  clear hT hZ
  unfold okE holdsB loE hiE deE at h
  simp only [Bool.and_eq_true, Bool.or_eq_true, decide_eq_true_eq, beq_iff_eq] at h
  generalize 10 ^ (x + 400).toNat = R at *
  generalize 10 ^ (-e).toNat = P at *
  obtain ⟨a1, c1⟩ := pow_scale (A := d) (P := P) (R := R) (Q := 10 ^ k * 10 ^ e.toNat) hlo hPQ
  obtain ⟨a2, _⟩ := pow_scale (A := d) (P := P) (R := R) (Q := 10 ^ k * 10 ^ e.toNat) hhi hPQ
  have hd : d * 10 ^ k * (deN b * 10 ^ e.toNat) = d * (deN b * (10 ^ k * 10 ^ e.toNat)) := by grind
  rw [hd] at h
  have hZT : 0 < Z * T := Nat.mul_pos hZp hTp
  have lt_of : ∀ {u v u' v' : Nat}, u * (Z * T) = u' * (deN b * P) → v * (Z * T) = v' * (deN b * P) → u < v → u' < v' := fun e1 e2 hlt => by
    have := Nat.mul_lt_mul_of_pos_right hlt hZT
    rw [e1, e2] at this
    exact Nat.lt_of_mul_lt_mul_right this
  have le_of : ∀ {u v u' v' : Nat}, u * (Z * T) = u' * (deN b * P) → v * (Z * T) = v' * (deN b * P) → u ≤ v → u' ≤ v' := fun e1 e2 hlt => by
    have := Nat.mul_le_mul_right (Z * T) hlt
    rw [e1, e2] at this
    exact Nat.le_of_mul_le_mul_right this hDp
  rcases h.2 with h | h
  · exact .inl ⟨lt_of a1 c1 h.1, lt_of c1 a2 h.2⟩
  · exact .inr ⟨h.1.1, le_of a1 c1 h.1.2, le_of c1 a2 h.2⟩
theorem candE_ok {b : Nat} {e : Int} {n : Nat} (h : candE b e = n) (h0 : 0 < n) : okE b e n = true := by
  unfold candE at h
  split at h
  · rw [← h]; assumption
  · split at h
    · rw [← h]; assumption
    · omega
/-- one shortest number, one pattern -/
theorem ShortR.pat {b c d : Nat} {x : Int} (hb : b < 9223372036854775808) (hc : c < 9223372036854775808) (h : ShortR b d x) (k : ShortR c d x) : b = c := by
  obtain ⟨a, ha⟩ : ∃ a, a = 400 := ⟨_, rfl⟩
  obtain ⟨z, hz⟩ : ∃ z, z = 1076 := ⟨_, rfl⟩
  obtain ⟨T, hT⟩ : ∃ T, T = 10 ^ a := ⟨_, rfl⟩
  obtain ⟨Z, hZ⟩ : ∃ Z, Z = 2 ^ z := ⟨_, rfl⟩
  have hTp : 0 < T := by rw [hT]; exact Nat.pow_pos (by decide)
  have w : ∀ {b : Nat}, ShortR b d x → (loV b * T < d * 10 ^ (x + 400).toNat * Z ∧ d * 10 ^ (x + 400).toNat * Z < hiV b * T) ∨ (b % 2 = 0 ∧ loV b * T ≤ d * 10 ^ (x + 400).toNat * Z ∧ d * 10 ^ (x + 400).toNat * Z ≤ hiV b * T) := fun {b} h => by
    obtain ⟨t, i, k, hT1, hi, hc, hno, hdk, hx, hm, hx1, hx2⟩ := h
    rw [hdk] at hc
    exact within_scaled ha hz hT hZ hx hx1 (candE_ok hdk hc)
  have key : ∀ {b c : Nat}, c < 9223372036854775808 → ShortR b d x → ShortR c d x → ¬ b < c := fun {b c} hc h k hlt => by
    obtain ⟨n, hn⟩ : ∃ n, c = b + 1 + n := ⟨c - (b + 1), by omega⟩
    subst hn
    have h1 := w h
    have h2 := w k
    have h3 := apart (b := b) n hc
    have h4 := Nat.mul_le_mul_right T h3.1
    by_cases hn : 0 < n
    · have h5 := Nat.mul_lt_mul_of_pos_right (h3.2 hn) hTp
      omega
    · omega
  have h1 := key hc h k
  have h2 := key hb k h
  omega
end Go.Proofs.YtjdelpelnjhidaaGreatDoor.Pl
