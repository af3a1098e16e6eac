/- plumblaw14's hexed, walked. -/
import Derived.Test.YtjdelpelnjhidaaGreatDoorFtoM
namespace Go.Proofs.YtjdelpelnjhidaaGreatDoor.Pl
open Go.RowKit
theorem size_B {l : List UInt8} {n : Nat} (h : l.length = n) : (B l).size = n := by rw [B_size, h]
theorem dec_two {n : Nat} (h : 2 ≤ (Lib.decDigits n).length) : ∃ c l, Lib.decDigits n = c :: l ∧ c ≠ 48 := by
  refine dec_head ?_
  apply Classical.byContradiction
  intro h0
  obtain rfl : n = 0 := by omega
  rw [Lib.decDigits_one (by decide)] at h
  simp at h
/-- the looks of an exponent of two -/
structure HexE (X : List UInt8) : Prop where
  len : 2 ≤ X.length
  le : X.length ≤ 30
  sign : X[0]? = some 43 ∨ X[0]? = some 45
  lead : 2 < X.length → X[1]? ≠ some 48
  zero : X ≠ [45, 48]
theorem hexE (x : Int) (h1 : -1100 ≤ x) (h2 : x ≤ 1100) : HexE ((if x < 0 then [] else [43]) ++ Lib.itoa x) := by
  have key : ∀ n : Nat, n ≤ 1100 → ∀ s : UInt8, (s = 43 ∨ (s = 45 ∧ 0 < n)) → HexE (s :: Lib.decDigits n) := fun n hn s hs => by
    have hl : 1 ≤ (Lib.decDigits n).length := List.length_pos_iff.2 (dec_ne_nil n)
    have hl2 : (Lib.decDigits n).length ≤ 20 := by
      have := itoa_len n (by omega)
      rwa [Lib.itoa_nonneg] at this
    refine ⟨by rw [List.length_cons]; omega, by rw [List.length_cons]; omega, ?_, ?_, ?_⟩
    · rcases hs with rfl | ⟨rfl, _⟩
      · exact .inl rfl
      · exact .inr rfl
    · intro h
      rw [List.length_cons] at h
      obtain ⟨c, l, e, hc⟩ := dec_two (n := n) (by omega)
      rw [e]
      intro h
      exact hc (Option.some.inj h)
    · rintro h
      rw [List.cons.injEq] at h
      rcases hs with rfl | ⟨rfl, h0⟩
      · exact absurd h.1 (by decide)
      · have := valL_dec n
        rw [h.2] at this
        have h3 : valL [48] = 0 := rfl
        omega
  by_cases hx : x < 0
  · obtain ⟨n, hn⟩ := Int.eq_ofNat_of_zero_le (by omega : 0 ≤ -x)
    obtain rfl : x = -(n : Int) := by omega
    rw [if_pos hx, Lib.itoa_neg n (by omega)]
    exact key n (by omega) 45 (.inr ⟨rfl, by omega⟩)
  · obtain ⟨n, rfl⟩ := Int.eq_ofNat_of_zero_le (by omega : 0 ≤ x)
    rw [if_neg hx, Lib.itoa_nonneg]
    exact key n (by omega) 43 (.inl rfl)
theorem trimR_last (l : List UInt8) (c : UInt8) (h : Lib.trimRightB l c ≠ []) : ∃ r x, Lib.trimRightB l c = r ++ [x] ∧ x ≠ c := by
  unfold Lib.trimRightB at *
  obtain ⟨x, r, e⟩ := List.exists_cons_of_ne_nil (l := l.reverse.dropWhile (· == c)) (by intro h0; rw [h0] at h; exact h rfl)
  refine ⟨r.reverse, x, by rw [e, List.reverse_cons], ?_⟩
  have := List.head?_dropWhile_not (· == c) l.reverse
  rw [e] at this
  simpa using this
/-- the looks of a mantissa of two -/
structure HexM (H : List UInt8) : Prop where
  len : 3 ≤ H.length
  le : H.length ≤ 17
  pre : H.take 3 = [48, 120, 49]
  dot : H.length ≠ 3 → H[3]? = some 46
  more : H.length ≠ 3 → 4 < H.length
  last : H.length ≠ 3 → H[H.length - 1]? ≠ some 48
theorem hexM (m : Nat) : HexM (hexH m) := by
  unfold hexH
  have hl := trimR_len ((hexL m 14).drop 1) 48
  rw [List.length_drop, hexL_len] at hl
  by_cases h : hexS m = []
  · rw [if_pos h]
    exact ⟨by decide, by decide, rfl, fun h => absurd rfl h, fun h => absurd rfl h, fun h => absurd rfl h⟩
  · rw [if_neg h]
    have hp := List.length_pos_iff.2 h
    obtain ⟨r, x, e, hx⟩ := trimR_last ((hexL m 14).drop 1) 48 h
    change hexS m = r ++ [x] at e
    have hS : (hexS m).length ≤ 13 := hl
    rw [e, List.length_append, List.length_singleton] at hS
    rw [e]
    refine ⟨by simp, by simp; omega, rfl, fun _ => rfl, fun _ => by simp, fun _ => ?_⟩
    rw [show [48, 120, 49] ++ 46 :: (r ++ [x]) = ([48, 120, 49, 46] ++ r) ++ [x] by simp, List.length_append, List.length_singleton, Nat.add_sub_cancel, List.getElem?_concat_length]
    intro h
    exact hx (Option.some.inj h)
theorem getB_of {l : List UInt8} {k : Nat} {c : UInt8} (h : l[k]? = some c) : ∃ h' : k < (B l).size, ((B l)[k]'h').toNat = c.toNat := by
  obtain ⟨h1, h2⟩ := List.getElem?_eq_some_iff.1 h
  refine ⟨by rw [B_size]; exact h1, ?_⟩
  rw [getB l k h1 (by rw [B_size]; exact h1), h2]
set_option maxRecDepth 100000 in
set_option maxHeartbeats 8000000 in
theorem hexed_any (m : Nat) (x : Int) (w : World) (h1 : -1100 ≤ x) (h2 : x ≤ 1100) : Calls Tryz.prog 11 #[.string (B (hexX m x))] w fun e w' => e = .returned (.bool true) ∧ Below w.heap.size w w' := by
  have hcut := cutS_any (hexX m x) 112 w (Nat.le_trans (hex_len m h1 h2) (by decide))
  have hE := hexE x h1 h2
  have hM := hexM m
  obtain ⟨e1, e2⟩ := cutS_at (b := (if x < 0 then [] else [43]) ++ Lib.itoa x) (hexH_no m)
  rw [← hex_cut] at e1 e2
  rw [e1, e2] at hcut
  generalize (if x < 0 then [] else [43]) ++ Lib.itoa x = X at *
  generalize hexH m = H at *
  generalize hexX m x = S at *
  clear e1 e2
  have HC := Lib.hid hcut
  clear hcut
  have hs1 := B_size X
  have hs2 := B_size H
  obtain ⟨q1, q2, q3, q4, q5⟩ := hE
  obtain ⟨r1, r2, r3, r4, r5, r6⟩ := hM
  have hX2 : ¬ (X.length : Int) < 2 := by omega
  have hH3 : ¬ (H.length : Int) < 3 := by omega
  have hpre : ((B H).extract 0 3).toList = [48, 120, 49] := by rw [B_take, B_list, r3]
  have hXz : ((B X).toList == [45, 48]) = false := by rw [B_list]; simpa using q5
  have hX0 : ∃ h' : 0 < (B X).size, (((B X)[0]'h').toNat : Int) = 43 ∨ (((B X)[0]'h').toNat : Int) = 45 := by
    rcases q3 with q3 | q3
    · obtain ⟨h', e⟩ := getB_of q3
      exact ⟨h', .inl (by rw [e]; rfl)⟩
    · obtain ⟨h', e⟩ := getB_of q3
      exact ⟨h', .inr (by rw [e]; rfl)⟩
  have hX1 : (X.length : Int) ≤ 2 ∨ (2 < (X.length : Int) ∧ ∃ h' : 1 < (B X).size, ¬ (((B X)[1]'h').toNat : Int) = 48) := by
    by_cases h : 2 < X.length
    · have hb : 1 < (B X).size := by rw [hs1]; omega
      refine .inr ⟨by omega, hb, fun he => q4 h ?_⟩
      rw [getB X 1 (by omega) hb] at he
      rw [List.getElem?_eq_getElem (by omega : 1 < X.length)]
      exact congrArg some (u8_eq.1 he)
    · exact .inl (by omega)
  have hH : H.length = 3 ∨ (¬ (H.length : Int) = 3 ∧ 4 < (H.length : Int) ∧ (∃ h' : 3 < (B H).size, (((B H)[3]'h').toNat : Int) = 46) ∧ ∃ h' : H.length - 1 < (B H).size, ¬ (((B H)[H.length - 1]'h').toNat : Int) = 48) := by
    by_cases h : H.length = 3
    · exact .inl h
    · obtain ⟨h', e⟩ := getB_of (r4 h)
      have hb : H.length - 1 < (B H).size := by rw [hs2]; omega
      refine .inr ⟨by omega, by have := r5 h; omega, ⟨h', by rw [e]; rfl⟩, hb, fun he => r6 h ?_⟩
      rw [getB H (H.length - 1) (by omega) hb] at he
      rw [List.getElem?_eq_getElem (by omega : H.length - 1 < H.length)]
      exact congrArg some (u8_eq.1 he)
  have hH17 : (H.length : Int) ≤ 17 := by omega
  clear q1 q3 q4 q5 r1 r3 r4 r5 r6
  obtain ⟨hx0, hX0⟩ := hX0
  rcases hX0 with hX0 | hX0
  all_goals rcases hX1 with hX1 | ⟨hX1, hx1, hX1'⟩
  all_goals rcases hH with hH | ⟨hH, hH4, ⟨hh3, hHd⟩, hhl, hHl⟩
  all_goals
    go_enter Tryz.func11, Tryz.ntmps11
    go_wp2_with (first
      | (go_at_call 10; refine HC.out.mono ?_; rintro e w1 ⟨rfl, hb1⟩)
      | fail)
  all_goals first
    | (go_ret; exact ⟨rfl, hb1⟩)
    | (exfalso; rename_i h; simp only [beq_iff_eq] at h; omega)
    | (go_ret; exact ⟨congrArg (fun b => Ending.returned (Value.bool b)) (bne_iff_ne.2 hHl), hb1⟩)
end Go.Proofs.YtjdelpelnjhidaaGreatDoor.Pl
