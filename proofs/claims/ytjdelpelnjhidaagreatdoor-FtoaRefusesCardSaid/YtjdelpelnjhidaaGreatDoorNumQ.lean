/- Long division by words, in plain Lean: a guess, its correction, and what is taken away. -/
import Derived.Test.YtjdelpelnjhidaaGreatDoorNum
namespace Go.Proofs.YtjdelpelnjhidaaGreatDoor.Pl

/-- two halves of a word, by a divisor whose highest bit is 1: a step of a quotient of two words -/
theorem half_done {b bh bw rest low d left : Nat} (hb : b = 4294967296 * bh + bw) (hi : d * bh + left = rest) (hd : d * bw ≤ 4294967296 * left + low) : d * b ≤ 4294967296 * rest + low := by
  have : d * b = 4294967296 * (d * bh) + d * bw := by rw [hb]; grind
  omega
theorem half_more {b bh bw rest low d left : Nat} (hb : b = 4294967296 * bh + bw) (hi : d * bh + left = rest) (hd : 4294967296 * left + low < d * bw) : 4294967296 * rest + low < d * b := by
  have : d * b = 4294967296 * (d * bh) + d * bw := by rw [hb]; grind
  omega
theorem half_first {b bh bw rest low : Nat} (hb : b = 4294967296 * bh + bw) (h0 : 0 < bh) (hl : low < 4294967296) : (4294967296 * rest + low) / b ≤ rest / bh := by
  have h1 := Nat.lt_mul_div_succ rest h0
  rw [Nat.mul_comm bh] at h1
  generalize rest / bh = g at *
  have h3 := Nat.mul_le_mul_left 4294967296 (show rest + 1 ≤ (g + 1) * bh from h1)
  have h4 : b * (g + 1) = 4294967296 * ((g + 1) * bh) + (g + 1) * bw := by rw [hb]; grind
  have h5 : 4294967296 * rest + low < b * (g + 1) := by omega
  exact Nat.lt_succ_iff.1 (Nat.div_lt_of_lt_mul h5)

/-- Knuth's D: the guess is not below the quotient .. -/
theorem kn_more {g v1 v0 r u2 u1 u0 : Nat} (hi : g * v1 + r = 18446744073709551616 * u2 + u1) (h : 18446744073709551616 * r + u0 < g * v0) :
    18446744073709551616 * (18446744073709551616 * u2 + u1) + u0 < g * (18446744073709551616 * v1 + v0) := by
  generalize hd : 18446744073709551616 * v1 + v0 = d
  have h1 : g * d = 18446744073709551616 * (g * v1) + g * v0 := by rw [← hd]; grind
  omega
theorem kn_done {g v1 v0 r u2 u1 u0 : Nat} (hi : g * v1 + r = 18446744073709551616 * u2 + u1) (h : g * v0 ≤ 18446744073709551616 * r + u0) :
    g * (18446744073709551616 * v1 + v0) ≤ 18446744073709551616 * (18446744073709551616 * u2 + u1) + u0 := by
  generalize hd : 18446744073709551616 * v1 + v0 = d
  have h1 : g * d = 18446744073709551616 * (g * v1) + g * v0 := by rw [← hd]; grind
  omega
theorem kn_dec {T D P U V Ul Vl g : Nat} (hU : U = T * P + Ul) (hV : V = D * P + Vl) (hl : Ul < P) (h : T < g * D) : U / V < g := by
  apply Nat.div_lt_of_lt_mul
  have h1 := Nat.mul_le_mul_right P (show T + 1 ≤ g * D from h)
  have h2 : g * V = g * D * P + g * Vl := by rw [hV]; grind
  rw [Nat.mul_comm V g, h2]
  rw [Nat.add_mul, Nat.one_mul] at h1
  omega
/-- .. and not above it by two -/
theorem kn_up {T D P U V Ul Vl g B : Nat} (hU : U = T * P + Ul) (hV : V = D * P + Vl) (hv : Vl < P) (hg : g < B) (hD : B ≤ D) (h : g * D ≤ T) : g ≤ U / V + 1 := by
  have h1 := Nat.mul_le_mul_right P h
  have h2 : g * V = g * D * P + g * Vl := by rw [hV]; grind
  have h3 : g * Vl ≤ g * P := Nat.mul_le_mul_left _ (Nat.le_of_lt hv)
  have h4 : g * P ≤ D * P := Nat.mul_le_mul_right _ (by omega)
  have h5 : g * V ≤ U + V := by omega
  have hV0 : 0 < V := by
    have : 0 < D * P := Nat.mul_pos (by omega) (by omega)
    omega
  rw [← Nat.add_div_right U hV0]
  exact (Nat.le_div_iff_mul_le hV0).2 h5
theorem kn_first {u2 u1 u0 v1 v0 T D P U V Ul Vl : Nat} (hT : T = 18446744073709551616 * (18446744073709551616 * u2 + u1) + u0) (hD : D = 18446744073709551616 * v1 + v0) (hU : U = T * P + Ul) (hV : V = D * P + Vl) (hl : Ul < P) (h0 : 0 < v1) (hu : u0 < 18446744073709551616) :
    U / V ≤ (18446744073709551616 * u2 + u1) / v1 := by
  refine Nat.lt_succ_iff.1 (kn_dec hU hV hl ?_)
  have h1 := Nat.lt_mul_div_succ (18446744073709551616 * u2 + u1) h0
  rw [Nat.mul_comm v1] at h1
  generalize (18446744073709551616 * u2 + u1) / v1 = g at *
  have h2 := Nat.mul_le_mul_left 18446744073709551616 (show 18446744073709551616 * u2 + u1 + 1 ≤ (g + 1) * v1 from h1)
  have h3 : (g + 1) * D = 18446744073709551616 * ((g + 1) * v1) + (g + 1) * v0 := by rw [hD]; grind
  show T < (g + 1) * D
  omega
/-- a step of taking v times a word away: u's word ui, what comes of it (x), the product's words, what is borrowed -/
theorem take_step {P g w ui x lo hi above br br' a V U : Nat} (h : a + g * V = U + P * (above + br)) (hp : w * g + above = hi * 18446744073709551616 + lo) (hs : x + lo + br = ui + br' * 18446744073709551616) :
    a + P * x + g * (V + P * w) = U + P * ui + P * 18446744073709551616 * (hi + br') := by
  have h1 : g * (V + P * w) = g * V + P * (w * g) := by grind
  have h2 : P * (w * g) + P * above = P * 18446744073709551616 * hi + P * lo := by grind
  have h3 : P * x + P * lo + P * br = P * ui + P * 18446744073709551616 * br' := by grind
  rw [h1]
  grind
/-- a step of adding v: what is carried -/
theorem give_step {P w ui x c c' a V U : Nat} (h : a + P * c = U + V) (hs : x + c' * 18446744073709551616 = ui + w + c) : a + P * x + P * 18446744073709551616 * c' = U + P * ui + (V + P * w) := by
  have h1 : P * x + P * 18446744073709551616 * c' = P * ui + P * w + P * c := by grind
  grind
/-- the quotient's word, and the rest, by what take and give leave (M: one above the greatest number of that many words) -/
theorem kn_took {U V g R M br : Nat} (hV : 0 < V) (h : R + g * V = U + M * br) (hR : R < M) (hbr : br ≤ 1) (h1 : U / V ≤ g) (h2 : g ≤ U / V + 1) :
    (br = 0 → g = U / V ∧ R = U % V) ∧ (br = 1 → g = U / V + 1 ∧ U % V + M = R + V) := by
  have hdm := Nat.div_add_mod U V
  have hm := Nat.mod_lt U hV
  rcases Nat.lt_or_ge (U / V) g with hg | hg
  · have hg' : g = U / V + 1 := by omega
    subst hg'
    have h3 : (U / V + 1) * V = V * (U / V) + V := by grind
    rcases Nat.eq_zero_or_pos br with h0 | h0
    · subst h0; omega
    · have : br = 1 := by omega
      subst this
      refine ⟨fun h => by omega, fun _ => ⟨rfl, by omega⟩⟩
  · have hg' : g = U / V := by omega
    subst hg'
    have h3 : U / V * V = V * (U / V) := Nat.mul_comm _ _
    rcases Nat.eq_zero_or_pos br with h0 | h0
    · subst h0; refine ⟨fun _ => ⟨rfl, by omega⟩, fun h => by omega⟩
    · have : br = 1 := by omega
      subst this; omega
end Go.Proofs.YtjdelpelnjhidaaGreatDoor.Pl
