/- ryu, in plain words: the numbers by a power of ten, their size, the candidates, and that seventeen digits are enough. -/
import Derived.Test.YtjdelpelnjhidaaGreatDoorRyuB
namespace Go.Proofs.YtjdelpelnjhidaaGreatDoor.Pl
open Go.RowKit
def heN (b : Nat) : Nat := 4 * mantP b * 2 ^ (expP b - 2).toNat
def loN (b : Nat) : Nat := (4 * mantP b - belowP b) * 2 ^ (expP b - 2).toNat
def hiN (b : Nat) : Nat := (4 * mantP b + 2) * 2 ^ (expP b - 2).toNat
def deN (b : Nat) : Nat := 2 ^ (-(expP b - 2)).toNat
def loE (b : Nat) (e : Int) : Nat := loN b * 10 ^ (-e).toNat
def heE (b : Nat) (e : Int) : Nat := heN b * 10 ^ (-e).toNat
def hiE (b : Nat) (e : Int) : Nat := hiN b * 10 ^ (-e).toNat
def deE (b : Nat) (e : Int) : Nat := deN b * 10 ^ e.toNat
def okE (b : Nat) (e : Int) (d : Nat) : Bool := decide (0 < d) && holdsB (loE b e) (hiE b e) (deE b e) (b % 2 == 0) d
def qE (b : Nat) (e : Int) : Nat := heE b e / deE b e
def rE (b : Nat) (e : Int) : Nat := heE b e % deE b e
def upE (b : Nat) (e : Int) : Bool := decide (deE b e < rE b e * 2) || (decide (rE b e * 2 = deE b e) && decide (qE b e % 2 = 1))
def fstE (b : Nat) (e : Int) : Nat := if upE b e = true then qE b e + 1 else qE b e
def sndE (b : Nat) (e : Int) : Nat := if upE b e = true then qE b e else qE b e + 1
def candE (b : Nat) (e : Int) : Nat := if okE b e (fstE b e) = true then fstE b e else if okE b e (sndE b e) = true then sndE b e else 0
/-- ten to the t is not above the number, ten times that is -/
structure Top (b : Nat) (t : Int) : Prop where
  ge : deE b t ≤ heE b t
  lt : heE b (t + 1) < deE b (t + 1)
theorem deN_pos (b : Nat) : 0 < deN b := Nat.two_pow_pos _
theorem deE_pos (b : Nat) (e : Int) : 0 < deE b e := Nat.mul_pos (deN_pos b) (Nat.pow_pos (by decide))
theorem scaleE (b : Nat) (e : Int) (i : Nat) : heE b (e - i) * deE b e = heE b e * 10 ^ i * deE b (e - i) := by
  unfold heE deE
  have h1 : (-(e - (i : Int))).toNat + e.toNat = (-e).toNat + i + (e - (i : Int)).toNat := by omega
  have h2 : (10 : Nat) ^ (-(e - (i : Int))).toNat * 10 ^ e.toNat = 10 ^ (-e).toNat * 10 ^ i * 10 ^ (e - (i : Int)).toNat := by
    rw [← Nat.pow_add, h1, Nat.pow_add, Nat.pow_add]
  generalize (10 : Nat) ^ (-(e - (i : Int))).toNat = a at *
  generalize (10 : Nat) ^ e.toNat = c at *
  generalize (10 : Nat) ^ (-e).toNat = d at *
  generalize (10 : Nat) ^ (e - (i : Int)).toNat = f at *
  calc heN b * a * (deN b * c) = heN b * deN b * (a * c) := by grind
    _ = heN b * deN b * (d * 10 ^ i * f) := by rw [h2]
    _ = heN b * d * 10 ^ i * (deN b * f) := by grind
theorem Top.q_lt {b : Nat} {t : Int} (h : Top b t) (i : Nat) : heE b (t - i) < 10 ^ (i + 1) * deE b (t - i) := by
  have h1 := scaleE b (t + 1) (i + 1)
  rw [show t + 1 - ((i + 1 : Nat) : Int) = t - i by omega] at h1
  have h2 := h.lt
  have h3 := deE_pos b (t + 1)
  have h4 := deE_pos b (t - i)
  have hp : 0 < 10 ^ (i + 1) := Nat.pow_pos (by decide)
  have h5 : heE b (t + 1) * 10 ^ (i + 1) * deE b (t - i) < deE b (t + 1) * 10 ^ (i + 1) * deE b (t - i) := Nat.mul_lt_mul_of_pos_right (Nat.mul_lt_mul_of_pos_right h2 hp) h4
  rw [← h1] at h5
  have h6 : heE b (t - i) * deE b (t + 1) < (10 ^ (i + 1) * deE b (t - i)) * deE b (t + 1) := by
    refine Nat.lt_of_lt_of_le h5 (Nat.le_of_eq ?_)
    rw [Nat.mul_assoc, Nat.mul_comm]
  exact Nat.lt_of_mul_lt_mul_right h6
theorem Top.q_ge {b : Nat} {t : Int} (h : Top b t) (i : Nat) : 10 ^ i * deE b (t - i) ≤ heE b (t - i) := by
  have h1 := scaleE b t i
  have h2 := h.ge
  have h3 := deE_pos b t
  have h5 : deE b t * 10 ^ i * deE b (t - i) ≤ heE b t * 10 ^ i * deE b (t - i) := Nat.mul_le_mul_right _ (Nat.mul_le_mul_right _ h2)
  rw [← h1] at h5
  have h6 : (10 ^ i * deE b (t - i)) * deE b t ≤ heE b (t - i) * deE b t := by
    refine Nat.le_trans (Nat.le_of_eq ?_) h5
    rw [Nat.mul_comm, Nat.mul_assoc]
  exact Nat.le_of_mul_le_mul_right h6 h3
theorem Top.q_pos {b : Nat} {t : Int} (h : Top b t) (i : Nat) : 0 < qE b (t - i) := by
  refine Nat.div_pos ?_ (deE_pos b _)
  have h1 := h.q_ge i
  have h2 : 1 * deE b (t - i) ≤ 10 ^ i * deE b (t - i) := Nat.mul_le_mul_right _ (Nat.pow_pos (by decide))
  omega
theorem Top.q_word {b : Nat} {t : Int} (h : Top b t) {i : Nat} (hi : i ≤ 16) : qE b (t - i) < 100000000000000000 := by
  refine (Nat.div_lt_iff_lt_mul (deE_pos b _)).2 ?_
  have h1 := h.q_lt i
  have h2 : (10 : Nat) ^ (i + 1) ≤ 10 ^ 17 := Nat.pow_le_pow_right (by decide) (by omega)
  have h3 := Nat.mul_le_mul_right (deE b (t - i)) h2
  have h4 : (10 : Nat) ^ 17 = 100000000000000000 := by decide
  rw [h4] at h3
  omega
/-- the nearer number of seventeen digits lies in the interval -/
theorem near_in {H D X M : Nat} {bw : Nat} (hH : H = M * X) (hX : 0 < X) (h16 : 10000000000000000 * D ≤ H) (hM : M < 20000000000000000 * bw) {z : Nat} (hz : 2 * z ≤ D) : z < bw * X := by
  apply Classical.byContradiction
  intro hc
  have h1 : bw * X ≤ z := Nat.le_of_not_lt hc
  have h2 : M * X < 20000000000000000 * bw * X := Nat.mul_lt_mul_of_pos_right hM hX
  have h3 : 20000000000000000 * bw * X = 20000000000000000 * (bw * X) := Nat.mul_assoc _ _ _
  omega
theorem belowP_le (b : Nat) : belowP b = 1 ∨ belowP b = 2 := by unfold belowP; split <;> omega
theorem mant_below (b : Nat) : 4 * mantP b < 20000000000000000 * belowP b := by
  have h := mantP_lt b
  unfold belowP
  split
  · rename_i h1; omega
  · omega
theorem Top.found {b : Nat} {t : Int} (h : Top b t) (hm : 0 < mantP b) : okE b (t - (16 : Nat)) (fstE b (t - (16 : Nat))) = true := by
  generalize he : t - ((16 : Nat) : Int) = e
  have h16 := h.q_ge 16
  have hq := h.q_pos 16
  rw [he] at h16 hq
  have hD := deE_pos b e
  obtain ⟨X, hX⟩ : ∃ X, X = 2 ^ (expP b - 2).toNat * 10 ^ (-e).toNat := ⟨_, rfl⟩
  have hXp : 0 < X := by rw [hX]; exact Nat.mul_pos (Nat.two_pow_pos _) (Nat.pow_pos (by decide))
  have hH : heE b e = 4 * mantP b * X := by unfold heE heN; rw [hX, Nat.mul_assoc]
  have hL : loE b e = (4 * mantP b - belowP b) * X := by unfold loE loN; rw [hX, Nat.mul_assoc]
  have hU : hiE b e = (4 * mantP b + 2) * X := by unfold hiE hiN; rw [hX, Nat.mul_assoc]
  have hbw := belowP_le b
  have hmb := mant_below b
  have hml := mantP_lt b
  have hLH : loE b e + belowP b * X = heE b e := by
    rw [hL, hH, ← Nat.add_mul, Nat.sub_add_cancel (by omega)]
  have hUH : hiE b e = heE b e + 2 * X := by rw [hU, hH, Nat.add_mul]
  have hdm := Nat.div_add_mod (heE b e) (deE b e)
  have hr := Nat.mod_lt (heE b e) hD
  have h16' : 10000000000000000 * deE b e ≤ heE b e := h16
  have hn1 := fun z hz => near_in (z := z) hH hXp h16' hmb hz
  have hn2 := fun z hz => near_in (z := z) (bw := 2) hH hXp h16' (by omega) hz
  have hqd : qE b e * deE b e + rE b e = heE b e := by unfold qE rE; rw [Nat.mul_comm]; exact hdm
  unfold okE holdsB fstE
  change rE b e < deE b e at hr
  by_cases hu : upE b e = true
  · rw [if_pos hu]
    have h2 : deE b e ≤ rE b e * 2 := by
      unfold upE at hu
      simp only [Bool.or_eq_true, Bool.and_eq_true, decide_eq_true_eq] at hu
      omega
    have h3 := hn2 (deE b e - rE b e) (by omega)
    have h4 : (qE b e + 1) * deE b e = heE b e + (deE b e - rE b e) := by rw [Nat.add_mul, Nat.one_mul]; omega
    have h5 : 0 < belowP b * X := Nat.mul_pos (by omega) hXp
    rw [h4]
    simp only [Bool.and_eq_true, Bool.or_eq_true, decide_eq_true_eq]
    exact ⟨Nat.succ_pos _, .inl ⟨by omega, by omega⟩⟩
  · rw [if_neg hu]
    have h2 : rE b e * 2 ≤ deE b e := by
      unfold upE at hu
      simp only [Bool.or_eq_true, Bool.and_eq_true, decide_eq_true_eq] at hu
      omega
    have h3 := hn1 (rE b e) (by omega)
    have h4 : qE b e * deE b e = heE b e - rE b e := by omega
    rw [h4]
    simp only [Bool.and_eq_true, Bool.or_eq_true, decide_eq_true_eq]
    exact ⟨hq, .inl ⟨by omega, by omega⟩⟩
theorem lg_low {b : Nat} {k r : Int} (hm : 0 < mantP b) (hk : k = expP b + bl (mantP b) - 1) (hL : Lg k r) : deE b r ≤ heE b r := by
  unfold deE heE deN heN
  obtain ⟨y, hy⟩ : ∃ y, y = expP b - 2 := ⟨_, rfl⟩
  rw [← hy]
  generalize mantP b = m at *
  have hb := bl_pos (n := m) (by omega)
  have h4 : 2 ^ (bl m + 1) ≤ 4 * m := by
    have := bl_le (n := m) (by omega)
    rw [show bl m + 1 = bl m - 1 + 2 by omega, Nat.pow_add]
    omega
  by_cases hk0 : 0 ≤ k
  · obtain ⟨n, rfl, h1, _⟩ := hL.1 hk0
    rw [show (-(n : Int)).toNat = 0 by omega, Int.toNat_natCast, Nat.pow_zero, Nat.mul_one]
    refine Nat.le_trans (Nat.mul_le_mul_left _ h1) ?_
    rw [← Nat.pow_add, show (-y).toNat + k.toNat = bl m + 1 + y.toNat by omega, Nat.pow_add]
    exact Nat.mul_le_mul_right _ h4
  · obtain ⟨n, rfl, _, h2⟩ := hL.2 (by omega)
    rw [show (-(n : Int) - 1).toNat = 0 by omega, show (-(-(n : Int) - 1)).toNat = n + 1 by omega, Nat.pow_zero, Nat.mul_one]
    have h3 : 2 ^ (-y).toNat = 2 ^ (bl m + 1 + y.toNat) * 2 ^ (-k).toNat := by
      rw [← Nat.pow_add]; congr 1; omega
    rw [h3, Nat.pow_add]
    exact Nat.mul_le_mul (Nat.mul_le_mul_right _ h4) (Nat.le_of_lt h2)
theorem lg_high {b : Nat} {k r : Int} (hm : 0 < mantP b) (hk : k = expP b + bl (mantP b) - 1) (hL : Lg k r) : heE b (r + 1 + 1) < deE b (r + 1 + 1) := by
  unfold deE heE deN heN
  obtain ⟨y, hy⟩ : ∃ y, y = expP b - 2 := ⟨_, rfl⟩
  rw [← hy]
  generalize mantP b = m at *
  have hb := bl_pos (n := m) (by omega)
  have h4 : 4 * m < 2 ^ (bl m + 2) := by
    have := lt_bl m
    rw [Nat.pow_add]
    omega
  have h5 : 4 * m * 2 ^ y.toNat < 2 ^ (bl m + 2 + y.toNat) := by rw [Nat.pow_add]; exact Nat.mul_lt_mul_of_pos_right h4 (Nat.two_pow_pos _)
  by_cases hk0 : 0 ≤ k
  · obtain ⟨n, rfl, _, h2⟩ := hL.1 hk0
    rw [show (-((n : Int) + 1 + 1)).toNat = 0 by omega, show ((n : Int) + 1 + 1).toNat = n + 2 by omega, Nat.pow_zero, Nat.mul_one]
    refine Nat.lt_of_lt_of_le h5 ?_
    rw [show bl m + 2 + y.toNat = (-y).toNat + (k.toNat + 1) by omega, Nat.pow_add]
    refine Nat.mul_le_mul_left _ ?_
    rw [Nat.pow_succ, Nat.pow_succ (n := 10)]
    omega
  · obtain ⟨n, rfl, h1, h2⟩ := hL.2 (by omega)
    have h3 : 2 ^ (-y).toNat = 2 ^ (bl m + 1 + y.toNat) * 2 ^ (-k).toNat := by
      rw [← Nat.pow_add]; congr 1; omega
    have h6 : 2 ^ (bl m + 2 + y.toNat) = 2 ^ (bl m + 1 + y.toNat) * 2 := by rw [← Nat.pow_succ]; congr 1; omega
    rw [h6] at h5
    rw [h3]
    cases n with
    | zero =>
      rw [show (-(-((0 : Nat) : Int) - 1 + 1 + 1)).toNat = 0 by omega, show (-((0 : Nat) : Int) - 1 + 1 + 1).toNat = 1 by omega, Nat.pow_zero, Nat.mul_one]
      refine Nat.lt_of_lt_of_le h5 ?_
      rw [Nat.mul_assoc]
      refine Nat.mul_le_mul_left _ ?_
      have := Nat.two_pow_pos (-k).toNat
      omega
    | succ n =>
      rw [show (-(-((n + 1 : Nat) : Int) - 1 + 1 + 1)).toNat = n by omega, show (-((n + 1 : Nat) : Int) - 1 + 1 + 1).toNat = 0 by omega, Nat.pow_zero, Nat.mul_one]
      have h7 : 2 * 10 ^ n ≤ 2 ^ (-k).toNat := by
        refine Nat.le_trans ?_ h1
        rw [Nat.pow_succ]; omega
      have h8 := Nat.mul_lt_mul_of_pos_right h5 (Nat.pow_pos (n := n) (by decide : 0 < 10))
      refine Nat.lt_of_lt_of_le h8 ?_
      rw [Nat.mul_assoc]
      exact Nat.mul_le_mul_left _ h7
theorem ten_two {a n N : Nat} (h : 10 ^ n ≤ 2 ^ a) (ha : a < 13 * N) : n < 4 * N := by
  apply Classical.byContradiction
  intro hc
  have e1 : (2 : Nat) ^ a ≤ 2 ^ (13 * N) := Nat.pow_le_pow_right (by decide) (by omega)
  have e2 : ((2 : Nat) ^ 13) ^ N < (10 ^ 4) ^ N := Nat.pow_lt_pow_left (by decide) (by omega)
  rw [← Nat.pow_mul, ← Nat.pow_mul] at e2
  have e3 : (10 : Nat) ^ (4 * N) ≤ 10 ^ n := Nat.pow_le_pow_right (by decide) (by omega)
  omega
theorem lg_bounds {k r : Int} (h1 : -1200 ≤ k) (h2 : k ≤ 1200) (hL : Lg k r) : -375 ≤ r ∧ r ≤ 375 := by
  have key : ∀ a n : Nat, a ≤ 1200 → 10 ^ n ≤ 2 ^ a → n ≤ 372 := fun a n ha h => Nat.le_of_lt (ten_two h (by omega) (N := 93))
  by_cases hk0 : 0 ≤ k
  · obtain ⟨n, rfl, h, _⟩ := hL.1 hk0
    have := key _ _ (by omega) h
    omega
  · obtain ⟨n, rfl, h, _⟩ := hL.2 (by omega)
    have := key _ _ (by omega) h
    omega
theorem bl_bounds {b : Nat} (hf : finP b) : bl (loN b) ≤ 1100 ∧ bl (heN b) ≤ 1100 ∧ bl (hiN b) ≤ 1100 ∧ bl (deN b) ≤ 1100 := by
  have hm := mantP_lt b
  have he := expP_hi hf
  have hl := expP_lo b
  have key : ∀ x, x < 72057594037927936 → bl (x * 2 ^ (expP b - 2).toNat) ≤ 1100 := by
    intro x hx
    have h1 : bl x ≤ 56 := bl_le_iff.2 hx
    have h2 := bl_mul_le (a := x) (b := 2 ^ (expP b - 2).toNat)
    have h3 := bl_pow_le 2 (expP b - 2).toNat
    by_cases h0 : x = 0
    · rw [h0, Nat.zero_mul]; decide
    · rw [bl_shift _ h0]; omega
  refine ⟨key _ (by omega), key _ (by omega), key _ (by omega), ?_⟩
  have := bl_shift (n := 1) (-(expP b - 2)).toNat (by decide)
  rw [Nat.one_mul, show bl 1 = 1 by decide] at this
  unfold deN
  omega
end Go.Proofs.YtjdelpelnjhidaaGreatDoor.Pl
