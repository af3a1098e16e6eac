/- plumblaw14.FtoaForms: the looks of the scientific form (plain). -/
import Derived.Test.YtjdelpelnjhidaaGreatDoorFtoN
namespace Go.Proofs.YtjdelpelnjhidaaGreatDoor.Pl
open Go.RowKit
/-- the looks of the digits ahead of the exponent -/
structure MantF (H : List UInt8) : Prop where
  len : 1 ≤ H.length
  le : H.length ≤ 30
  fst : ∃ c, H[0]? = some c ∧ 49 ≤ c.toNat ∧ c.toNat ≤ 57
  two : H.length ≠ 2
  dot : 1 < H.length → H[1]? = some 46
  last : 1 < H.length → H[H.length - 1]? ≠ some 48
theorem last_digit {d : Nat} (h : d % 10 ≠ 0) : ∃ r c, Lib.decDigits d = r ++ [c] ∧ c ≠ 48 := by
  obtain ⟨r, e⟩ := dec_last d
  refine ⟨r, _, e, fun hc => ?_⟩
  have := congrArg UInt8.toNat hc
  rw [digit_nat (Nat.mod_lt _ (by decide))] at this
  have h48 : (48 : UInt8).toNat = 48 := rfl
  omega
theorem first_digit {d : Nat} (h : d % 10 ≠ 0) : ∃ c l, Lib.decDigits d = c :: l ∧ 49 ≤ c.toNat ∧ c.toNat ≤ 57 := by
  obtain ⟨c, l, e, hc⟩ := dec_head (u := d) (by omega)
  have h1 := dec_digit d c (by rw [e]; exact List.mem_cons_self ..)
  refine ⟨c, l, e, ?_, h1.2⟩
  have h2 : c.toNat ≠ 48 := fun h => hc (UInt8.toNat.inj h)
  have := h1.1
  omega
theorem mantF {d : Nat} (h : d % 10 ≠ 0) (hl : (Lib.decDigits d).length ≤ 20) : MantF (mantL (Lib.decDigits d)) := by
  obtain ⟨c, l, e, h1, h2⟩ := first_digit h
  obtain ⟨r, x, e2, h3⟩ := last_digit h
  unfold mantL
  by_cases hn : 1 < (Lib.decDigits d).length
  · rw [if_pos hn]
    rw [e] at hl hn ⊢
    rw [List.length_cons] at hl hn
    have e3 : (c :: l).take 1 ++ 46 :: (c :: l).drop 1 = c :: 46 :: l := rfl
    rw [e3]
    refine ⟨by simp, by simp; omega, ⟨c, rfl, h1, h2⟩, by simp; intro h; subst h; simp at hn, fun _ => rfl, fun _ => ?_⟩
    rw [e] at e2
    cases r with
    | nil => rw [List.nil_append, List.cons.injEq] at e2; rw [e2.2] at hn; simp at hn
    | cons y r =>
      rw [List.cons_append, List.cons.injEq] at e2
      rw [e2.2, show c :: 46 :: (r ++ [x]) = (c :: 46 :: r) ++ [x] by simp, List.length_append, List.length_singleton, Nat.add_sub_cancel, List.getElem?_concat_length]
      intro h
      exact h3 (Option.some.inj h)
  · rw [if_neg hn, List.append_nil]
    rw [e] at hn ⊢
    rw [List.length_cons] at hn
    obtain rfl : l = [] := List.eq_nil_of_length_eq_zero (by omega)
    rw [show [c].take 1 = [c] from rfl]
    exact ⟨by simp, by simp, ⟨c, rfl, h1, h2⟩, by simp, fun h => by simp at h, fun h => by simp at h⟩
/-- the looks of the exponent -/
structure ExpF (X : List UInt8) (x : Int) : Prop where
  len : 3 ≤ X.length
  le : X.length ≤ 30
  sign : (X[0]? = some 43 ∧ 0 ≤ x) ∨ (X[0]? = some 45 ∧ x < 0)
  lead : 3 < X.length → X[1]? ≠ some 48
  zero : X ≠ [45, 48, 48]
  digs : ∀ c ∈ X.drop 1, dg10 c
  value : (valL (X.drop 1) : Int) = if x < 0 then -x else x
theorem twoL_len (l : List UInt8) (h : l ≠ []) : 2 ≤ (twoL l).length ∧ (twoL l).length ≤ l.length + 1 := by
  have := List.length_pos_iff.2 h
  unfold twoL
  split
  · rw [List.length_cons]; omega
  · omega
theorem expF (x : Int) (h1 : -1900 ≤ x) (h2 : x ≤ 1900) : ExpF (expL x) x := by
  have key : ∀ n : Nat, n ≤ 1900 → ∀ s : UInt8, (s = 43 ∧ x = n) ∨ (s = 45 ∧ x = -n ∧ 0 < n) → ExpF (s :: twoL (Lib.decDigits n)) x := fun n hn s hs => by
    have hl2 : (Lib.decDigits n).length ≤ 20 := by
      have := itoa_len n (by omega)
      rwa [Lib.itoa_nonneg] at this
    have ht := twoL_len (Lib.decDigits n) (dec_ne_nil n)
    have hd : ∀ c ∈ twoL (Lib.decDigits n), dg10 c := by
      unfold twoL
      split
      · intro c hc
        rcases List.mem_cons.1 hc with rfl | hc
        · exact ⟨by decide, by decide⟩
        · exact dec_digit n c hc
      · exact dec_digit n
    refine ⟨by rw [List.length_cons]; omega, by rw [List.length_cons]; omega, ?_, ?_, ?_, hd, ?_⟩
    · rcases hs with ⟨rfl, h⟩ | ⟨rfl, h, h0⟩
      · exact .inl ⟨rfl, by omega⟩
      · exact .inr ⟨rfl, by omega⟩
    · intro h
      rw [List.length_cons] at h
      have h3 : ¬ (Lib.decDigits n).length < 2 := fun hlt => by
        unfold twoL at h
        rw [if_pos hlt, List.length_cons] at h
        omega
      obtain ⟨c, l, e, hc⟩ := dec_two (n := n) (by omega)
      unfold twoL
      rw [if_neg h3, e]
      intro h
      exact hc (Option.some.inj h)
    · intro h
      rw [List.cons.injEq] at h
      rcases hs with ⟨rfl, _⟩ | ⟨rfl, _, h0⟩
      · exact absurd h.1 (by decide)
      · have h3 := congrArg valL h.2
        rw [valL_two, valL_dec] at h3
        have h4 : valL [48, 48] = 0 := rfl
        omega
    · rw [List.drop_one, List.tail_cons, valL_two, valL_dec]
      rcases hs with ⟨rfl, h⟩ | ⟨rfl, h, h0⟩
      · rw [if_neg (by omega)]; omega
      · rw [if_pos (by omega)]; omega
  unfold expL
  by_cases hx : x < 0
  · obtain ⟨n, hn⟩ := Int.eq_ofNat_of_zero_le (by omega : 0 ≤ -x)
    rw [if_pos hx, if_pos hx, hn, Lib.itoa_nonneg]
    exact key n (by omega) 45 (.inr ⟨rfl, by omega, by omega⟩)
  · obtain ⟨n, hn⟩ := Int.eq_ofNat_of_zero_le (by omega : 0 ≤ x)
    rw [if_neg hx, if_neg hx]
    have e : Lib.itoa x = Lib.decDigits n := by rw [hn, Lib.itoa_nonneg]
    rw [e]
    exact key n (by omega) 43 (.inl ⟨rfl, by omega⟩)
/-- the looks of the plain form -/
structure PlainF (s W R : List UInt8) (p : Int) : Prop where
  cut : fstS 46 s = W ∧ sndS 46 s = R
  pos : 1 ≤ s.length
  le : s.length ≤ 60
  wle : 1 ≤ W.length ∧ W.length ≤ 60
  rle : R.length ≤ 60
  lead : 1 < W.length → W[0]? ≠ some 48
  many : 0 < p → (W.length : Int) = p
  none : p ≤ 0 → W = [48]
  tail : R ≠ [] → R[R.length - 1]? ≠ some 48
  dot : s[s.length - 1]? ≠ some 46
  digs : ∀ c ∈ s, c = 46 ∨ dg10 c
theorem last_mem {l : List UInt8} {x : UInt8} (h : l[l.length - 1]? = some x) : x ∈ l := List.mem_of_getElem? h
theorem plainF {d : Nat} {p : Int} (h : d % 10 ≠ 0) (hl : (Lib.decDigits d).length ≤ 20) (h1 : -5 ≤ p) (h2 : p ≤ 21) : ∃ W R, PlainF (laidL (Lib.decDigits d) p) W R p := by
  have hd := dec_digit d
  obtain ⟨c, l0, e, hc1, hc2⟩ := first_digit h
  obtain ⟨r, x, e2, h3⟩ := last_digit h
  have hle := laid_len (p := p) hl h1 h2
  have hn : Lib.decDigits d ≠ [] := dec_ne_nil d
  generalize Lib.decDigits d = l at *
  have hn0 := List.length_pos_iff.2 hn
  have hc48 : c ≠ 48 := by rintro rfl; exact absurd hc1 (by decide)
  by_cases hp : p < l.length
  · rw [laid_dot hp] at hle ⊢
    have hw := whole_digs hd p
    have hr := part_digs hd p
    have hpl := part_len hp
    have hR : ∃ r', partL l p = r' ++ [x] := by
      unfold partL
      split
      · exact ⟨_ ++ r, by rw [e2, List.append_assoc]⟩
      · rename_i h0
        refine ⟨r.drop p.toNat, ?_⟩
        rw [e2] at hp ⊢
        rw [List.length_append, List.length_singleton] at hp
        rw [List.drop_append_of_le_length (by omega)]
    obtain ⟨r', hR⟩ := hR
    rw [List.length_append, List.length_cons] at hle
    have hwl : 1 ≤ (wholeL l p).length := by
      unfold wholeL
      split
      · decide
      · rw [List.length_take]; omega
    refine ⟨wholeL l p, partL l p, cutS_at (digs_no hw (by decide)), by rw [List.length_append, List.length_cons]; omega, by rw [List.length_append, List.length_cons]; omega, ⟨hwl, by omega⟩, by omega, ?_, ?_, ?_, ?_, ?_, ?_⟩
    · intro hl1 h48
      unfold wholeL at hl1 h48
      split at hl1
      · simp at hl1
      · rename_i h0
        rw [if_neg h0, e, List.getElem?_take_of_lt (by omega)] at h48
        exact hc48 (Option.some.inj h48)
    · intro h0
      unfold wholeL
      rw [if_neg (by omega), List.length_take]
      omega
    · intro h0
      unfold wholeL
      rw [if_pos h0]
    · intro _
      rw [hR, List.length_append, List.length_singleton, Nat.add_sub_cancel, List.getElem?_concat_length]
      intro h
      exact h3 (Option.some.inj h)
    · rw [hR, show wholeL l p ++ 46 :: (r' ++ [x]) = (wholeL l p ++ 46 :: r') ++ [x] by simp, List.length_append, List.length_singleton, Nat.add_sub_cancel, List.getElem?_concat_length]
      intro h46
      obtain rfl : x = 46 := Option.some.inj h46
      have := hd 46 (by rw [e2]; simp)
      exact absurd this.1 (by decide)
    · intro y hy
      rcases List.mem_append.1 hy with hy | hy
      · exact .inr (hw y hy)
      · rcases List.mem_cons.1 hy with hy | hy
        · exact .inl hy
        · exact .inr (hr y hy)
  · rw [laid_nodot (by omega) (by omega)] at hle ⊢
    have hz : ∀ y ∈ l ++ List.replicate (p - l.length).toNat 48, dg10 y := fun y hy => by
      rcases List.mem_append.1 hy with hy | hy
      · exact hd y hy
      · rw [List.eq_of_mem_replicate hy]; exact ⟨by decide, by decide⟩
    have hlen : ((l ++ List.replicate (p - l.length).toNat (48 : UInt8)).length : Int) = p := by
      rw [List.length_append, List.length_replicate]; omega
    refine ⟨l ++ List.replicate (p - l.length).toNat 48, [], cutS_no (digs_no hz (by decide)), by omega, hle, ⟨by omega, by omega⟩, by decide, ?_, fun _ => hlen, fun h => by omega, fun h => absurd rfl h, ?_, fun y hy => .inr (hz y hy)⟩
    · intro _ h48
      rw [e] at h48
      exact hc48 (Option.some.inj h48)
    · intro h46
      have := hz 46 (last_mem h46)
      exact absurd this.1 (by decide)
end Go.Proofs.YtjdelpelnjhidaaGreatDoor.Pl
