/- ftoa.size's science and shortest, walked. -/
import Derived.Test.YtjdelpelnjhidaaGreatDoorFtoC
namespace Go.Proofs.YtjdelpelnjhidaaGreatDoor.Pl
open Go.RowKit
/-- an exponent of two digits or more -/
def twoL (e : List UInt8) : List UInt8 := if e.length < 2 then 48 :: e else e
/-- one digit ahead of the point, and an exponent -/
def sciL (l : List UInt8) (p : Int) : List UInt8 := l.take 1 ++ (if 1 < l.length then 46 :: l.drop 1 else []) ++ [101] ++ (if p - 1 < 0 then [45] else [43]) ++ twoL (Lib.itoa (if p - 1 < 0 then -(p - 1) else p - 1))
def shortL (l : List UInt8) (p : Int) : List UInt8 := if p < -5 ∨ 21 < p then sciL l p else laidL l p
theorem itoa_len (m : Nat) (h : m < 9223372036854775808) : (Lib.itoa (m : Int)).length ≤ 20 := by
  rw [Lib.itoa_nonneg]
  rcases Nat.eq_zero_or_pos m with h0 | h0
  · subst h0
    first
      | rfl
      | (rw [Lib.decDigits_length]; decide)
      | simp [Lib.decDigits]
      | (unfold Lib.decDigits; simp)
  · exact (dec_len h0 (by omega)).2
set_option maxRecDepth 100000 in
set_option maxHeartbeats 8000000 in
theorem science_any (b : Nat) (w : World) (hb : b < 9223372036854775808) (h0 : b ≠ 0) (hf : finP b) (htab : Tab10 w) : Calls Tryz.prog 50 #[.int .u64 b] w fun e w' => (∃ (d : Nat) (x : Int), e = .returned (.string (B (sciL (Lib.decDigits d) ((Lib.decDigits d).length + x)))) ∧ ShortR b d x ∧ d < 18446744073709551616) ∧ Below w.heap.size w w' := by
  have HD := Lib.hid (digits_any b w hb h0 hf htab)
  go_enter Tryz.func50, Tryz.ntmps50
  go_wp2_with (first
    | (go_at_call 66; refine HD.out.mono ?_; rintro e w1 ⟨⟨d, x, rfl, hsr, hd⟩, hb1⟩;
        obtain ⟨t, i, k, hT, hi, hc, hno, hdk, hx, hm, hx1, hx2⟩ := id hsr; have hl := dec_len (d := d) (by omega) hd; have HSR := Lib.hid hsr; have ht1 := htab.below hb1;
        obtain ⟨l, hl2⟩ : ∃ l, l = Lib.decDigits d := ⟨_, rfl⟩; rw [← hl2] at hl ⊢; have HL := Lib.hid hl2;
        obtain ⟨p, hp⟩ : ∃ p, p = (l.length : Int) + x := ⟨_, rfl⟩; rw [← hp]; have HP := Lib.hid hp; have hp1 : -400 ≤ p := (by omega); have hp2 : p ≤ 820 := (by omega); have hbs := B_size l;
        clear hl2 hp hsr hT hi hc hno hdk hx hm hx1 hx2 HD; clear t i k)
    | fail)
  all_goals
    first
      | (obtain ⟨m, hm⟩ : ∃ m : Nat, -(p - 1) = (m : Int) := ⟨(-(p - 1)).toNat, by omega⟩
         have hif : (if p - 1 < 0 then -(p - 1) else p - 1) = (m : Int) := by rw [if_pos (by omega)]; exact hm)
      | (obtain ⟨m, hm⟩ : ∃ m : Nat, p - 1 = (m : Int) := ⟨(p - 1).toNat, by omega⟩
         have hif : (if p - 1 < 0 then -(p - 1) else p - 1) = (m : Int) := by rw [if_neg (by omega)]; exact hm)
    have hit := Lib.hid (itoa_any m (by omega) (by omega) w1 ht1)
    have hel := itoa_len m (by omega)
    have HIF := Lib.hid hif
    clear hif
    rw [hm]
    obtain ⟨E, hE⟩ : ∃ E, E = Lib.itoa (m : Int) := ⟨_, rfl⟩
    rw [← hE] at hit hel
    have HE := Lib.hid hE
    have hbe := B_size E
    clear hE hm
    go_at_call 70
    refine hit.out.mono ?_
    rintro e w2 ⟨rfl, hb2⟩
    go_wp2_with fail
  all_goals
    go_ret
    refine ⟨⟨d, x, ?_, HSR.out, hd⟩, hb1.trans (hb2.mono hb1.size)⟩
    rw [← HL.out, ← HP.out]
    congr 2
    have hx1 : (B l).extract 0 1 = B (l.take 1) := B_take l 1
    have hx2 : (B l).extract 1 l.length = B (l.drop 1) := by have := B_drop l 1; rw [B_size] at this; exact this
    unfold sciL twoL
    rw [HIF.out, ← HE.out]
    simp only [hx1, hx2, B_cons, B_add]
    congr 1
    first
      | rw [if_pos (by omega : 1 < l.length)]
      | rw [if_neg (by omega : ¬ 1 < l.length)]
    first
      | rw [if_pos (by assumption : p - 1 < 0)]
      | rw [if_neg (by omega : ¬ p - 1 < 0)]
    first
      | rw [if_pos (by omega : E.length < 2)]
      | rw [if_neg (by omega : ¬ E.length < 2)]
    simp
theorem Top.le {b : Nat} {t u : Int} (h : Top b t) (k : Top b u) : t ≤ u := by
  apply Classical.byContradiction
  intro hc
  obtain ⟨i, hi⟩ : ∃ i : Nat, t - (i : Int) = u + 1 := ⟨(t - (u + 1)).toNat, by omega⟩
  have h1 := h.q_ge i
  rw [hi] at h1
  have h2 := k.lt
  have h3 : 1 * deE b (u + 1) ≤ 10 ^ i * deE b (u + 1) := Nat.mul_le_mul_right _ (Nat.pow_pos (by decide))
  omega
theorem strip_le {d d' k k' : Nat} (h : d * 10 ^ k = d' * 10 ^ k') (hd : d % 10 ≠ 0) : k' ≤ k := by
  apply Classical.byContradiction
  intro hc
  obtain ⟨j, rfl⟩ : ∃ j, k' = k + (j + 1) := ⟨k' - k - 1, by omega⟩
  rw [Nat.pow_add, Nat.pow_succ, ← Nat.mul_assoc, Nat.mul_right_comm] at h
  have h2 : d = d' * (10 ^ j * 10) := Nat.eq_of_mul_eq_mul_right (Nat.pow_pos (by decide) : 0 < 10 ^ k) h
  rw [← Nat.mul_assoc] at h2
  rw [h2] at hd
  exact hd (Nat.mul_mod_left _ _)
/-- one pattern has one shortest text -/
theorem ShortR.one {b d d' : Nat} {x x' : Int} (h : ShortR b d x) (h' : ShortR b d' x') : d = d' ∧ x = x' := by
  obtain ⟨t, i, k, hT, hi, hc, hno, hdk, hx, hm, hx1, hx2⟩ := h
  obtain ⟨t', i', k', hT', hi', hc', hno', hdk', hx', hm', hx1', hx2'⟩ := h'
  have ht : t = t' := Int.le_antisymm (hT.le hT') (hT'.le hT)
  subst ht
  have hii : i = i' := by
    rcases Nat.lt_trichotomy i i' with h | h | h
    · have := hno' i h; omega
    · exact h
    · have := hno i' h; omega
  subst hii
  rw [hdk] at hdk'
  have hk : k = k' := Nat.le_antisymm (strip_le hdk'.symm hm') (strip_le hdk' hm)
  subst hk
  exact ⟨Nat.eq_of_mul_eq_mul_right (Nat.pow_pos (by decide)) hdk', by omega⟩
set_option maxRecDepth 100000 in
set_option maxHeartbeats 8000000 in
theorem shortest_text (b : Nat) (w : World) (hb : b < 9223372036854775808) (h0 : b ≠ 0) (hf : finP b) (htab : Tab10 w) : Calls Tryz.prog 48 #[.int .u64 b] w fun e w' => (∃ (d : Nat) (x : Int), e = .returned (.string (B (shortL (Lib.decDigits d) ((Lib.decDigits d).length + x)))) ∧ ShortR b d x ∧ d < 18446744073709551616) ∧ Below w.heap.size w w' := by
  have HD := Lib.hid (digits_any b w hb h0 hf htab)
  go_enter Tryz.func48, Tryz.ntmps48
  go_wp2_with (first
    | (go_at_call 66; refine HD.out.mono ?_; rintro e w1 ⟨⟨d, x, rfl, hsr, hd⟩, hb1⟩;
        obtain ⟨t, i, k, hT, hi, hc, hno, hdk, hx, hm, hx1, hx2⟩ := id hsr; have hl := dec_len (d := d) (by omega) hd; have HSR := Lib.hid hsr; have ht1 := htab.below hb1;
        obtain ⟨l, hl2⟩ : ∃ l, l = Lib.decDigits d := ⟨_, rfl⟩; rw [← hl2] at hl ⊢; have HL := Lib.hid hl2;
        obtain ⟨p, hp⟩ : ∃ p, p = (l.length : Int) + x := ⟨_, rfl⟩; rw [← hp]; have HP := Lib.hid hp; have hp1 : -400 ≤ p := (by omega); have hp2 : p ≤ 820 := (by omega); have hbs := B_size l;
        have hla := Lib.hid (laid_any l p w1 (by omega) (by omega) (by intro h; rw [h] at hl; simp at hl)); have hsc := Lib.hid (science_any b w1 hb h0 hf ht1);
        clear hl2 hp hsr hT hi hc hno hdk hx hm hx1 hx2 HD; clear t i k)
    | (go_at_call 50; refine hsc.out.mono ?_; rintro e w2 ⟨⟨d2, x2, rfl, hs2, hd2⟩, hb2⟩)
    | (go_at_call 31; refine hla.out.mono ?_; rintro e w2 ⟨rfl, hb2⟩)
    | fail)
  all_goals
    go_ret
    refine ⟨⟨d, x, ?_, HSR.out, hd⟩, hb1.trans (hb2.mono hb1.size)⟩
    first
      | (obtain ⟨e1, e2⟩ := ShortR.one hs2 HSR.out
         subst e1 e2
         rw [← HL.out, ← HP.out]
         unfold shortL
         rw [if_pos (by omega)]
         rfl)
      | (rw [← HL.out, ← HP.out]
         unfold shortL
         rw [if_neg (by omega)]
         rfl)
end Go.Proofs.YtjdelpelnjhidaaGreatDoor.Pl
