/- Plain: two patterns of one text are one, in each mode; a text begins with no minus. -/
import Derived.Test.YtjdelpelnjhidaaGreatDoorFtoI
namespace Go.Proofs.YtjdelpelnjhidaaGreatDoor.Pl
open Go.RowKit
theorem trimR_pad (l : List UInt8) (c : UInt8) : l = Lib.trimRightB l c ++ List.replicate (l.length - (Lib.trimRightB l c).length) c := by
  have h1 : l.reverse.takeWhile (· == c) ++ l.reverse.dropWhile (· == c) = l.reverse := List.takeWhile_append_dropWhile
  have h2 : l.reverse.takeWhile (· == c) = List.replicate (l.reverse.takeWhile (· == c)).length c := by
    rw [List.eq_replicate_iff]
    refine ⟨rfl, fun b hb => ?_⟩
    have := List.all_takeWhile (p := (· == c)) (l := l.reverse)
    rw [List.all_eq_true] at this
    simpa using this b hb
  unfold Lib.trimRightB
  have h3 := congrArg List.reverse h1
  rw [List.reverse_append, List.reverse_reverse] at h3
  have h4 := congrArg List.length h3
  rw [List.length_append, List.length_reverse] at h4
  have h5 : l.length - (l.reverse.dropWhile (· == c)).reverse.length = (l.reverse.takeWhile (· == c)).length := by
    rw [List.length_reverse] at h4 ⊢
    omega
  rw [h5]
  conv => lhs; rw [← h3, h2, List.reverse_replicate]
theorem hexC_inj {a b : Nat} (ha : a < 16) (hb : b < 16) (h : hexC a = hexC b) : a = b := by
  have key : ∀ a b : Fin 16, hexC a.val = hexC b.val → a = b := by decide
  have := key ⟨a, ha⟩ ⟨b, hb⟩ h
  exact congrArg Fin.val this
theorem hexL_inj {u v : Nat} : ∀ (j : Nat), hexL u j = hexL v j → u % 16 ^ j = v % 16 ^ j
  | 0, _ => by rw [Nat.pow_zero, Nat.mod_one, Nat.mod_one]
  | j + 1, h => by
    rw [hexL, hexL, List.cons.injEq] at h
    have h1 := hexC_inj (Nat.mod_lt _ (by decide)) (Nat.mod_lt _ (by decide)) h.1
    have h2 := hexL_inj j h.2
    rw [Nat.pow_succ, Nat.mod_mul, Nat.mod_mul, h1, h2]
theorem hexC_no (n : Nat) (h : n < 16) : hexC n ≠ 112 ∧ hexC n ≠ 46 := by
  have key : ∀ a : Fin 16, hexC a.val ≠ 112 ∧ hexC a.val ≠ 46 := by decide
  exact key ⟨n, h⟩
theorem hexL_no (u j : Nat) : ∀ c ∈ hexL u j, c ≠ 112 ∧ c ≠ 46 := by
  induction j with
  | zero => intro c hc; cases hc
  | succ j ih =>
    intro c hc
    rw [hexL] at hc
    rcases List.mem_cons.1 hc with rfl | hc
    · exact hexC_no _ (Nat.mod_lt _ (by decide))
    · exact ih c hc
theorem hexS_mem {m : Nat} : ∀ c ∈ hexS m, c ≠ 112 ∧ c ≠ 46 := fun c hc => by
  refine hexL_no m 14 c (List.mem_of_mem_drop (i := 1) ?_)
  unfold hexS Lib.trimRightB at hc
  rw [List.mem_reverse] at hc
  have := (List.dropWhile_sublist (· == (48 : UInt8)) (l := ((hexL m 14).drop 1).reverse)).subset hc
  rwa [List.mem_reverse] at this
def hexH (m : Nat) : List UInt8 := [48, 120, 49] ++ (if hexS m = [] then [] else 46 :: hexS m)
theorem hex_cut (m : Nat) (x : Int) : hexX m x = hexH m ++ 112 :: ((if x < 0 then [] else [43]) ++ Lib.itoa x) := by
  unfold hexX hexH
  simp [List.append_assoc]
theorem hexH_no (m : Nat) : (112 : UInt8) ∉ hexH m := by
  unfold hexH
  intro h
  rcases List.mem_append.1 h with h | h
  · simp at h
  · split at h
    · cases h
    · rcases List.mem_cons.1 h with h | h
      · exact absurd h (by decide)
      · exact (hexS_mem _ h).1 rfl
theorem hex_tail {x y : Int} (h : (if x < 0 then ([] : List UInt8) else [43]) ++ Lib.itoa x = (if y < 0 then [] else [43]) ++ Lib.itoa y) : x = y := by
  have e : ∀ x : Int, (if x < 0 then ([] : List UInt8) else [43]) ++ Lib.itoa x = (if x < 0 then 45 else 43) :: Lib.decDigits x.natAbs := fun x => by
    by_cases h : x < 0
    · obtain ⟨n, hn⟩ := Int.eq_ofNat_of_zero_le (by omega : 0 ≤ -x)
      obtain rfl : x = -(n : Int) := by omega
      rw [if_pos h, if_pos h, Lib.itoa_neg n (by omega), Int.natAbs_neg, Int.natAbs_natCast]
      rfl
    · obtain ⟨n, rfl⟩ := Int.eq_ofNat_of_zero_le (by omega : 0 ≤ x)
      rw [if_neg h, if_neg h, Lib.itoa_nonneg, Int.natAbs_natCast]
      rfl
  rw [e, e, List.cons.injEq] at h
  have h2 := dec_inj h.2
  by_cases hx : x < 0
  · rw [if_pos hx] at h
    by_cases hy : y < 0
    · omega
    · rw [if_neg hy] at h
      exact absurd h.1 (by decide)
  · rw [if_neg hx] at h
    by_cases hy : y < 0
    · rw [if_pos hy] at h
      exact absurd h.1 (by decide)
    · omega
theorem hex_inj {m m' : Nat} {x x' : Int} (h1 : 4503599627370496 ≤ m) (h2 : m < 9007199254740992) (h3 : 4503599627370496 ≤ m') (h4 : m' < 9007199254740992) (h : hexX m x = hexX m' x') : m = m' ∧ x = x' := by
  rw [hex_cut, hex_cut] at h
  obtain ⟨r1, r2⟩ := cut_one h (hexH_no m) (hexH_no m')
  have hx := hex_tail r2
  have hS : hexS m = hexS m' := by
    unfold hexH at r1
    have r3 := List.append_cancel_left r1
    by_cases a : hexS m = []
    · rw [if_pos a] at r3
      by_cases b : hexS m' = []
      · rw [a, b]
      · rw [if_neg b] at r3; cases r3
    · rw [if_neg a] at r3
      by_cases b : hexS m' = []
      · rw [if_pos b] at r3; cases r3
      · rw [if_neg b, List.cons.injEq] at r3; exact r3.2
  have hl : ∀ u, (hexL u 14).drop 1 = hexL u 13 := fun u => rfl
  have hp : ∀ u, hexL u 13 = hexS u ++ List.replicate (13 - (hexS u).length) 48 := fun u => by
    have := trimR_pad ((hexL u 14).drop 1) 48
    rw [hl, hexL_len] at this
    unfold hexS
    rw [hl]
    exact this
  have h5 : hexL m 13 = hexL m' 13 := by rw [hp m, hp m', hS]
  have h6 := hexL_inj 13 h5
  have h7 : (16 : Nat) ^ 13 = 4503599627370496 := by decide
  rw [h7] at h6
  exact ⟨by omega, hx⟩
theorem HexR.pat {b c m : Nat} {x : Int} (hb : b < 9223372036854775808) (hc : c < 9223372036854775808) (hb0 : b ≠ 0) (hc0 : c ≠ 0) (h : HexR b m x) (h' : HexR c m x) : b = c := by
  obtain ⟨k, e1, e2, h1, h2⟩ := h
  obtain ⟨k', e3, e4, h3, h4⟩ := h'
  have l1 := expP_lo b
  have l2 := expP_lo c
  refine he_inj hb hc ?_ hb0 hc0
  have hp : 0 < 2 ^ k * 2 ^ k' := Nat.mul_pos (Nat.two_pow_pos _) (Nat.two_pow_pos _)
  refine Nat.eq_of_mul_eq_mul_right hp ?_
  unfold heV
  have h5 : 2 ^ (expP b + 1074).toNat * 2 ^ k' = 2 ^ (expP c + 1074).toNat * 2 ^ k := by
    rw [← Nat.pow_add, ← Nat.pow_add]
    congr 1
    omega
  calc 4 * mantP b * 2 ^ (expP b + 1074).toNat * (2 ^ k * 2 ^ k') = 4 * (mantP b * 2 ^ k) * (2 ^ (expP b + 1074).toNat * 2 ^ k') := by grind
    _ = 4 * (mantP c * 2 ^ k') * (2 ^ (expP c + 1074).toNat * 2 ^ k) := by rw [← e1, e3, h5]
    _ = 4 * mantP c * 2 ^ (expP c + 1074).toNat * (2 ^ k * 2 ^ k') := by grind
theorem ShortR.last {b d : Nat} {x : Int} (h : ShortR b d x) : d % 10 ≠ 0 := by
  obtain ⟨t, i, k, hT, hi, hc, hno, hdk, hx, hm, hx1, hx2⟩ := h
  exact hm
theorem TextR.pat {b c mode : Nat} {l : List UInt8} (hb : b < 9223372036854775808) (hc : c < 9223372036854775808) (hb0 : b ≠ 0) (hc0 : c ≠ 0) (h : TextR b mode l) (h' : TextR c mode l) : b = c := by
  rcases h with ⟨h0, d, x, h1, h2⟩ | ⟨h0, d, x, h1, h2⟩ | ⟨h0, d, x, h1, h2⟩ <;>
  rcases h' with ⟨h0', d', x', h1', h2'⟩ | ⟨h0', d', x', h1', h2'⟩ | ⟨h0', d', x', h1', h2'⟩
  all_goals first | (exfalso; omega) | skip
  · obtain ⟨e1, e2⟩ := short_inj h1.last h1'.last (h2.symm.trans h2')
    subst e1 e2
    exact h1.pat hb hc h1'
  · obtain ⟨_, _, _, a1, a2⟩ := id h1
    obtain ⟨_, _, _, a3, a4⟩ := id h1'
    obtain ⟨e1, e2⟩ := hex_inj a1 a2 a3 a4 (h2.symm.trans h2')
    subst e1 e2
    exact h1.pat hb hc hb0 hc0 h1'
  · obtain ⟨e1, e2⟩ := sci_inj (h2.symm.trans h2')
    subst e1
    obtain rfl : x = x' := by omega
    exact h1.pat hb hc h1'
/-- a shortest text has a digit that is not 0 -/
theorem short_val {d : Nat} {x : Int} : shortL (Lib.decDigits d) ((Lib.decDigits d).length + x) = [48] → d = 0 := by
  intro h
  have hv := valL_dec d
  have hd := dec_digit d
  have hn := List.length_pos_iff.2 (dec_ne_nil d)
  generalize Lib.decDigits d = l at *
  unfold shortL at h
  split at h
  · rw [sci_cut] at h
    have := congrArg (fun m => (101 : UInt8) ∈ m) h
    simp at this
  · by_cases h1 : (l.length : Int) + x < l.length
    · rw [laid_dot h1] at h
      have := congrArg (fun m => (46 : UInt8) ∈ m) h
      simp at this
    · rw [laid_nodot (by omega) (by omega)] at h
      have h2 := congrArg valL h
      rw [valL_append, valL_zeros, hv] at h2
      have h3 : valL [48] = 0 := rfl
      rw [h3, Nat.add_zero] at h2
      rcases Nat.mul_eq_zero.1 h2 with h4 | h4
      · exact h4
      · exact absurd h4 (Nat.pos_iff_ne_zero.1 (Nat.pow_pos (by decide)))
theorem TextR.not_zero {b mode : Nat} (h : TextR b mode (zeroT mode)) : False := by
  rcases h with ⟨rfl, d, x, h1, h2⟩ | ⟨rfl, m, x, h1, h2⟩ | ⟨rfl, d, x, h1, h2⟩
  · have := short_val h2.symm
    exact h1.last (by rw [this])
  · unfold zeroT hexX at h2
    simp at h2
  · have h3 : zeroT 3 = [48] ++ 101 :: [43, 48, 48] := rfl
    rw [sci_cut, h3] at h2
    have h4 := (cut_one h2 (by decide) (mant_no (dec_digit d) (by decide))).1
    have h5 := congrArg (List.filter (fun c => c != 46)) h4
    rw [mant_filter (dec_digit d)] at h5
    have h6 : Lib.decDigits d = [48] := h5.symm
    have h7 := valL_dec d
    rw [h6] at h7
    exact h1.last (by rw [← h7]; rfl)
theorem laid_head {l : List UInt8} (hl : ∀ c ∈ l, dg10 c) (hn : l ≠ []) (p : Int) : ∃ c r, laidL l p = c :: r ∧ dg10 c := by
  obtain ⟨c, r, rfl⟩ := List.exists_cons_of_ne_nil hn
  have hc := hl c (List.mem_cons_self ..)
  unfold laidL
  split
  · exact ⟨48, _, rfl, by decide, by decide⟩
  · split
    · exact ⟨c, _, rfl, hc⟩
    · rename_i h1 h2
      rw [show p.toNat = (p.toNat - 1) + 1 by omega]
      exact ⟨c, _, rfl, hc⟩
theorem sci_head {l : List UInt8} (hl : ∀ c ∈ l, dg10 c) (hn : l ≠ []) (p : Int) : ∃ c r, sciL l p = c :: r ∧ dg10 c := by
  obtain ⟨c, r, rfl⟩ := List.exists_cons_of_ne_nil hn
  have hc := hl c (List.mem_cons_self ..)
  exact ⟨c, _, rfl, hc⟩
theorem TextR.head {b mode : Nat} {l : List UInt8} (h : TextR b mode l) : ∃ c r, l = c :: r ∧ dg10 c := by
  rcases h with ⟨h0, d, x, h1, rfl⟩ | ⟨h0, m, x, h1, rfl⟩ | ⟨h0, d, x, h1, rfl⟩
  · unfold shortL
    split
    · exact sci_head (dec_digit d) (dec_ne_nil d) _
    · exact laid_head (dec_digit d) (dec_ne_nil d) _
  · exact ⟨48, _, rfl, by decide, by decide⟩
  · exact sci_head (dec_digit d) (dec_ne_nil d) _
theorem zeroT_head {mode : Nat} (h : 1 ≤ mode ∧ mode < 4) : ∃ c r, zeroT mode = c :: r ∧ dg10 c := by
  rcases (by omega : mode = 1 ∨ mode = 2 ∨ mode = 3) with rfl | rfl | rfl
  all_goals exact ⟨48, _, rfl, by decide, by decide⟩
/-- without the sign -/
noncomputable def sizeT (c mode : Nat) : List UInt8 := if c = 0 then zeroT mode else textU c mode
theorem textT_size (b mode : Nat) : textT b mode = (if b / 9223372036854775808 = 1 then [45] else []) ++ sizeT (b % 9223372036854775808) mode := rfl
theorem sizeT_head {c mode : Nat} (hm : 1 ≤ mode ∧ mode < 4) (h : c ≠ 0 → TextR c mode (textU c mode)) : ∃ x r, sizeT c mode = x :: r ∧ dg10 x := by
  unfold sizeT
  split
  · exact zeroT_head hm
  · exact (h (by assumption)).head
theorem sizeT_inj {c c' mode : Nat} (hc : c < 9223372036854775808) (hc' : c' < 9223372036854775808) (h : c ≠ 0 → TextR c mode (textU c mode)) (h' : c' ≠ 0 → TextR c' mode (textU c' mode)) (e : sizeT c mode = sizeT c' mode) : c = c' := by
  unfold sizeT at e
  by_cases h0 : c = 0
  · by_cases h1 : c' = 0
    · omega
    · rw [if_pos h0, if_neg h1] at e
      exact absurd (e ▸ h' h1) (fun h => h.not_zero)
  · by_cases h1 : c' = 0
    · rw [if_neg h0, if_pos h1] at e
      exact absurd (e ▸ h h0) (fun h => h.not_zero)
    · rw [if_neg h0, if_neg h1] at e
      exact (h h0).pat hc hc' h0 h1 (e ▸ h' h1)
/-- one text, one pattern -/
theorem textT_inj {b c mode : Nat} (hb : b < 18446744073709551616) (hc : c < 18446744073709551616) (hm : 1 ≤ mode ∧ mode < 4) (h : b % 9223372036854775808 ≠ 0 → TextR (b % 9223372036854775808) mode (textU (b % 9223372036854775808) mode)) (h' : c % 9223372036854775808 ≠ 0 → TextR (c % 9223372036854775808) mode (textU (c % 9223372036854775808) mode)) (e : textT b mode = textT c mode) : b = c := by
  rw [textT_size, textT_size] at e
  obtain ⟨x, r, e1, d1⟩ := sizeT_head hm h
  obtain ⟨y, s, e2, d2⟩ := sizeT_head hm h'
  have no : ∀ {x y : UInt8} {r s : List UInt8}, dg10 y → [45] ++ r = [] ++ y :: s → False := fun hd h => by
    simp only [List.singleton_append, List.nil_append, List.cons.injEq] at h
    rw [← h.1] at hd
    exact absurd hd.1 (by decide)
  by_cases hb1 : b / 9223372036854775808 = 1
  · rw [if_pos hb1] at e
    by_cases hc1 : c / 9223372036854775808 = 1
    · rw [if_pos hc1] at e
      have := sizeT_inj (Nat.mod_lt _ (by decide)) (Nat.mod_lt _ (by decide)) h h' (List.append_cancel_left e)
      omega
    · rw [if_neg hc1, e2] at e
      exact (no (x := x) d2 e).elim
  · rw [if_neg hb1] at e
    by_cases hc1 : c / 9223372036854775808 = 1
    · rw [if_pos hc1, e1] at e
      exact (no (x := x) d1 e.symm).elim
    · rw [if_neg hc1] at e
      have := sizeT_inj (Nat.mod_lt _ (by decide)) (Nat.mod_lt _ (by decide)) h h' (List.append_cancel_left e)
      omega
end Go.Proofs.YtjdelpelnjhidaaGreatDoor.Pl
