/- Plain: which texts belong to which digits and exponents; one text, one number. -/
import Derived.Test.YtjdelpelnjhidaaGreatDoorFtoG
namespace Go.Proofs.YtjdelpelnjhidaaGreatDoor.Pl
open Go.RowKit
/-- the number that decimal digits say -/
def valL (l : List UInt8) : Nat := l.foldl (fun a c => 10 * a + (c.toNat - 48)) 0
def dg10 (c : UInt8) : Prop := 48 ≤ c.toNat ∧ c.toNat ≤ 57
theorem foldl_val (l : List UInt8) (a : Nat) : l.foldl (fun a c => 10 * a + (c.toNat - 48)) a = a * 10 ^ l.length + valL l := by
  unfold valL
  induction l generalizing a with
  | nil => simp
  | cons c l ih =>
    rw [List.foldl_cons, List.foldl_cons, ih, ih (10 * 0 + _), List.length_cons, Nat.pow_succ]
    grind
theorem valL_append (l m : List UInt8) : valL (l ++ m) = valL l * 10 ^ m.length + valL m := by
  show (l ++ m).foldl _ 0 = _
  rw [List.foldl_append, foldl_val]
  rfl
theorem valL_zeros (n : Nat) : valL (List.replicate n 48) = 0 := by
  induction n with
  | zero => rfl
  | succ n ih => rw [List.replicate_succ', valL_append, ih]; simp [valL]
theorem digit_nat {u : Nat} (h : u < 10) : (UInt8.ofNat (48 + u)).toNat = 48 + u := by
  rw [UInt8.toNat_ofNat']; omega
theorem valL_dec (u : Nat) : valL (Lib.decDigits u) = u := by
  induction u using Nat.strongRecOn with
  | _ u ih =>
    rw [Lib.decDigits]
    split
    · rename_i h
      show 10 * 0 + ((UInt8.ofNat (48 + u)).toNat - 48) = u
      rw [digit_nat h]; omega
    · rw [valL_append, ih (u / 10) (by omega)]
      have h : valL [UInt8.ofNat (48 + u % 10)] = u % 10 := by
        show 10 * 0 + ((UInt8.ofNat (48 + u % 10)).toNat - 48) = u % 10
        rw [digit_nat (Nat.mod_lt _ (by decide))]; omega
      rw [h, List.length_singleton]
      omega
theorem dec_digit (u : Nat) : ∀ c ∈ Lib.decDigits u, dg10 c := by
  induction u using Nat.strongRecOn with
  | _ u ih =>
    rw [Lib.decDigits]
    split
    · rename_i h
      intro c hc
      rw [List.mem_singleton] at hc
      subst hc
      unfold dg10
      rw [digit_nat h]; omega
    · intro c hc
      rw [List.mem_append, List.mem_singleton] at hc
      rcases hc with hc | hc
      · exact ih (u / 10) (by omega) c hc
      · subst hc
        unfold dg10
        rw [digit_nat (Nat.mod_lt _ (by decide))]; omega
theorem dec_inj {u v : Nat} (h : Lib.decDigits u = Lib.decDigits v) : u = v := by rw [← valL_dec u, h, valL_dec]
theorem dec_ne_nil (u : Nat) : Lib.decDigits u ≠ [] := by
  rw [Lib.decDigits]
  split <;> simp
/-- no zero ahead -/
theorem dec_head {u : Nat} (h : 0 < u) : ∃ c l, Lib.decDigits u = c :: l ∧ c ≠ 48 := by
  induction u using Nat.strongRecOn with
  | _ u ih =>
    rw [Lib.decDigits]
    split
    · rename_i h1
      refine ⟨_, [], rfl, ?_⟩
      intro hc
      have := congrArg UInt8.toNat hc
      rw [digit_nat h1] at this
      have h48 : (48 : UInt8).toNat = 48 := rfl
      omega
    · obtain ⟨c, l, h1, h2⟩ := ih (u / 10) (by omega) (by omega)
      exact ⟨c, l ++ _, by rw [h1]; rfl, h2⟩
/-- the last digit -/
theorem dec_last (u : Nat) : ∃ l, Lib.decDigits u = l ++ [UInt8.ofNat (48 + u % 10)] := by
  rw [Lib.decDigits]
  split
  · rename_i h
    exact ⟨[], by rw [Nat.mod_eq_of_lt h]; rfl⟩
  · exact ⟨_, rfl⟩
theorem cut_one {x : UInt8} : ∀ {a a' b b' : List UInt8}, a ++ x :: b = a' ++ x :: b' → x ∉ a → x ∉ a' → a = a' ∧ b = b'
  | [], [], b, b', h, _, _ => by simpa using h
  | [], c :: a', b, b', h, _, h2 => by
    rw [List.nil_append, List.cons_append, List.cons.injEq] at h
    exact absurd (h.1 ▸ List.mem_cons_self ..) h2
  | c :: a, [], b, b', h, h1, _ => by
    rw [List.nil_append, List.cons_append, List.cons.injEq] at h
    exact absurd (h.1 ▸ List.mem_cons_self ..) h1
  | c :: a, d :: a', b, b', h, h1, h2 => by
    rw [List.cons_append, List.cons_append, List.cons.injEq] at h
    obtain ⟨r1, r2⟩ := cut_one h.2 (fun h => h1 (List.mem_cons_of_mem _ h)) (fun h => h2 (List.mem_cons_of_mem _ h))
    exact ⟨by rw [h.1, r1], r2⟩
theorem digs_no {l : List UInt8} (h : ∀ c ∈ l, dg10 c) {x : UInt8} (hx : x.toNat < 48 ∨ 57 < x.toNat) : x ∉ l := fun hc => by
  have := h x hc
  unfold dg10 at this
  omega
/-- ahead of the point, and behind it (none: there is no point) -/
def wholeL (l : List UInt8) (p : Int) : List UInt8 := if p ≤ 0 then [48] else l.take p.toNat
def partL (l : List UInt8) (p : Int) : List UInt8 := if p ≤ 0 then List.replicate (-p).toNat 48 ++ l else l.drop p.toNat
theorem laid_dot {l : List UInt8} {p : Int} (h : p < l.length) : laidL l p = wholeL l p ++ 46 :: partL l p := by
  unfold laidL wholeL partL
  by_cases h0 : p ≤ 0
  · rw [if_pos h0, if_pos h0, if_pos h0]; simp
  · rw [if_neg h0, if_neg h0, if_neg h0, if_neg (by omega)]; simp
theorem laid_nodot {l : List UInt8} {p : Int} (h0 : 0 < p) (h : (l.length : Int) ≤ p) : laidL l p = l ++ List.replicate (p - l.length).toNat 48 := by
  unfold laidL
  rw [if_neg (by omega), if_pos (by omega)]
theorem whole_digs {l : List UInt8} (hl : ∀ c ∈ l, dg10 c) (p : Int) : ∀ c ∈ wholeL l p, dg10 c := by
  unfold wholeL
  split
  · intro c hc
    rw [List.mem_singleton] at hc
    subst hc
    exact ⟨by decide, by decide⟩
  · intro c hc
    exact hl c (List.mem_of_mem_take hc)
theorem part_digs {l : List UInt8} (hl : ∀ c ∈ l, dg10 c) (p : Int) : ∀ c ∈ partL l p, dg10 c := by
  unfold partL
  split
  · intro c hc
    rw [List.mem_append] at hc
    rcases hc with hc | hc
    · rw [List.eq_of_mem_replicate hc]
      exact ⟨by decide, by decide⟩
    · exact hl c hc
  · intro c hc
    exact hl c (List.mem_of_mem_drop hc)
theorem whole_part_val {l : List UInt8} {p : Int} : valL (wholeL l p ++ partL l p) = valL l := by
  unfold wholeL partL
  by_cases h0 : p ≤ 0
  · rw [if_pos h0, if_pos h0, ← List.append_assoc, valL_append, show [48] ++ List.replicate (-p).toNat (48 : UInt8) = List.replicate ((-p).toNat + 1) 48 from (List.replicate_succ ..).symm, valL_zeros]
    omega
  · rw [if_neg h0, if_neg h0, List.take_append_drop]
theorem part_len {l : List UInt8} {p : Int} (h : p < l.length) : ((partL l p).length : Int) = l.length - p := by
  unfold partL
  by_cases h0 : p ≤ 0
  · rw [if_pos h0, List.length_append, List.length_replicate]; omega
  · rw [if_neg h0, List.length_drop]; omega
theorem laid_inj {d d' : Nat} {p p' : Int} (hd : d % 10 ≠ 0) (hd' : d' % 10 ≠ 0) (h0 : 0 < ((Lib.decDigits d).length : Int) ∧ 0 < ((Lib.decDigits d').length : Int)) (h : laidL (Lib.decDigits d) p = laidL (Lib.decDigits d') p') : d = d' ∧ p - (Lib.decDigits d).length = p' - (Lib.decDigits d').length := by
  have e1 := dec_digit d
  have e2 := dec_digit d'
  have v1 := valL_dec d
  have v2 := valL_dec d'
  generalize Lib.decDigits d = l at *
  generalize Lib.decDigits d' = l' at *
  have z48 : ∀ n, ∀ c ∈ List.replicate n (48 : UInt8), dg10 c := fun n c hc => by
    rw [List.eq_of_mem_replicate hc]
    exact ⟨by decide, by decide⟩
  have hz : ∀ (m : List UInt8) (n : Nat), (∀ c ∈ m, dg10 c) → ∀ c ∈ m ++ List.replicate n 48, dg10 c := fun m n hm c hc => by
    rcases List.mem_append.1 hc with hc | hc
    · exact hm c hc
    · exact z48 n c hc
  by_cases h1 : p < l.length
  · rw [laid_dot h1] at h
    by_cases h2 : p' < l'.length
    · rw [laid_dot h2] at h
      obtain ⟨r1, r2⟩ := cut_one h (digs_no (whole_digs e1 p) (by decide)) (digs_no (whole_digs e2 p') (by decide))
      have v3 := whole_part_val (l := l) (p := p)
      have v4 := whole_part_val (l := l') (p := p')
      have l3 := part_len h1
      have l4 := part_len h2
      rw [r2] at l3
      rw [r1, r2, v4] at v3
      omega
    · rw [laid_nodot (by omega) (by omega)] at h
      exact absurd (h ▸ List.mem_append_right _ (List.mem_cons_self ..)) (digs_no (hz l' _ e2) (by decide))
  · rw [laid_nodot (by omega) (by omega)] at h
    by_cases h2 : p' < l'.length
    · rw [laid_dot h2] at h
      exact absurd (h.symm ▸ List.mem_append_right _ (List.mem_cons_self ..)) (digs_no (hz l _ e1) (by decide))
    · rw [laid_nodot (by omega) (by omega)] at h
      have hv := congrArg valL h
      rw [valL_append, valL_append, valL_zeros, valL_zeros, List.length_replicate, List.length_replicate, v1, v2, Nat.add_zero, Nat.add_zero] at hv
      have k1 := strip_le hv hd
      have k2 := strip_le hv.symm hd'
      have k3 : (p - l.length).toNat = (p' - l'.length).toNat := Nat.le_antisymm k2 k1
      rw [k3] at hv
      exact ⟨Nat.eq_of_mul_eq_mul_right (Nat.pow_pos (by decide)) hv, by omega⟩
/-- ahead of the e -/
def mantL (l : List UInt8) : List UInt8 := l.take 1 ++ (if 1 < l.length then 46 :: l.drop 1 else [])
def expL (x : Int) : List UInt8 := (if x < 0 then [45] else [43]) ++ twoL (Lib.itoa (if x < 0 then -x else x))
theorem sci_cut (l : List UInt8) (p : Int) : sciL l p = mantL l ++ 101 :: expL (p - 1) := by
  unfold sciL mantL expL
  simp [List.append_assoc]
theorem mant_filter {l : List UInt8} (hl : ∀ c ∈ l, dg10 c) : (mantL l).filter (fun c => c != 46) = l := by
  have hk : ∀ m : List UInt8, (∀ c ∈ m, dg10 c) → m.filter (fun c => c != 46) = m := fun m hm => by
    rw [List.filter_eq_self]
    intro c hc
    have := hm c hc
    unfold dg10 at this
    simp only [bne_iff_ne, ne_eq]
    rintro rfl
    have h46 : (46 : UInt8).toNat = 46 := rfl
    omega
  unfold mantL
  rw [List.filter_append, hk _ (fun c hc => hl c (List.mem_of_mem_take hc))]
  split
  · rw [List.filter_cons_of_neg (by decide), hk _ (fun c hc => hl c (List.mem_of_mem_drop hc)), List.take_append_drop]
  · rw [List.filter_nil, List.append_nil, List.take_of_length_le (by omega)]
theorem mant_no {l : List UInt8} (hl : ∀ c ∈ l, dg10 c) {x : UInt8} (hx : x.toNat < 46 ∨ 57 < x.toNat) : x ∉ mantL l := by
  unfold mantL
  intro hc
  rw [List.mem_append] at hc
  have key : ∀ c, dg10 c → c ≠ x := fun c h e => by subst e; unfold dg10 at h; omega
  rcases hc with hc | hc
  · exact key _ (hl x (List.mem_of_mem_take hc)) rfl
  · split at hc
    · rcases List.mem_cons.1 hc with rfl | hc
      · have : (46 : UInt8).toNat = 46 := rfl
        omega
      · exact key _ (hl x (List.mem_of_mem_drop hc)) rfl
    · cases hc
theorem valL_two (l : List UInt8) : valL (twoL l) = valL l := by
  unfold twoL
  split
  · show valL ([48] ++ l) = _
    rw [valL_append, show valL [48] = 0 from rfl]; omega
  · rfl
theorem abs_nat (x : Int) : ∃ n : Nat, (if x < 0 then -x else x) = (n : Int) ∧ (x = n ∨ x = -n) ∧ (x < 0 → x = -n) ∧ (0 ≤ x → x = n) := by
  by_cases h : x < 0
  · exact ⟨(-x).toNat, by rw [if_pos h]; omega, by omega, by omega, by omega⟩
  · exact ⟨x.toNat, by rw [if_neg h]; omega, by omega, by omega, by omega⟩
theorem exp_inj {x y : Int} (h : expL x = expL y) : x = y := by
  unfold expL at h
  obtain ⟨m, hm, _, hm1, hm2⟩ := abs_nat x
  obtain ⟨n, hn, _, hn1, hn2⟩ := abs_nat y
  rw [hm, hn] at h
  have key : ∀ a b : UInt8, [a] ++ twoL (Lib.itoa (m : Int)) = [b] ++ twoL (Lib.itoa (n : Int)) → a = b ∧ m = n := fun a b h => by
    simp only [List.singleton_append, List.cons.injEq] at h
    have h2 := congrArg valL h.2
    rw [valL_two, valL_two, Lib.itoa_nonneg, Lib.itoa_nonneg, valL_dec, valL_dec] at h2
    exact ⟨h.1, h2⟩
  by_cases h1 : x < 0
  · rw [if_pos h1] at h
    by_cases h2 : y < 0
    · rw [if_pos h2] at h
      have := (key _ _ h).2
      omega
    · rw [if_neg h2] at h
      exact absurd (key _ _ h).1 (by decide)
  · rw [if_neg h1] at h
    by_cases h2 : y < 0
    · rw [if_pos h2] at h
      exact absurd (key _ _ h).1 (by decide)
    · rw [if_neg h2] at h
      have := (key _ _ h).2
      omega
theorem sci_inj {d d' : Nat} {p p' : Int} (h : sciL (Lib.decDigits d) p = sciL (Lib.decDigits d') p') : d = d' ∧ p = p' := by
  rw [sci_cut, sci_cut] at h
  obtain ⟨h1, h2⟩ := cut_one h (mant_no (dec_digit d) (by decide)) (mant_no (dec_digit d') (by decide))
  have h3 := congrArg (List.filter (fun c => c != 46)) h1
  rw [mant_filter (dec_digit d), mant_filter (dec_digit d')] at h3
  have := exp_inj h2
  exact ⟨dec_inj h3, by omega⟩
theorem laid_noe {l : List UInt8} (hl : ∀ c ∈ l, dg10 c) (p : Int) : (101 : UInt8) ∉ laidL l p := by
  have key : ∀ c, dg10 c → c ≠ 101 := fun c h e => by
    subst e; unfold dg10 at h
    have : (101 : UInt8).toNat = 101 := rfl
    omega
  intro hc
  by_cases h1 : p < l.length
  · rw [laid_dot h1] at hc
    rcases List.mem_append.1 hc with hc | hc
    · exact key _ (whole_digs hl p _ hc) rfl
    · rcases List.mem_cons.1 hc with hc | hc
      · exact absurd hc (by decide)
      · exact key _ (part_digs hl p _ hc) rfl
  · by_cases h0 : 0 < p
    · rw [laid_nodot h0 (by omega)] at hc
      rcases List.mem_append.1 hc with hc | hc
      · exact key _ (hl _ hc) rfl
      · exact absurd (List.eq_of_mem_replicate hc) (by decide)
    · have h2 : l = [] := List.eq_nil_of_length_eq_zero (by omega)
      subst h2
      unfold laidL at hc
      rw [if_pos (by omega)] at hc
      simp only [List.append_nil, List.mem_append, List.mem_cons, List.not_mem_nil, or_false] at hc
      rcases hc with (hc | hc) | hc
      · exact absurd hc (by decide)
      · exact absurd hc (by decide)
      · exact absurd (List.eq_of_mem_replicate hc) (by decide)
theorem short_inj {d d' : Nat} {x x' : Int} (hd : d % 10 ≠ 0) (hd' : d' % 10 ≠ 0) (h : shortL (Lib.decDigits d) ((Lib.decDigits d).length + x) = shortL (Lib.decDigits d') ((Lib.decDigits d').length + x')) : d = d' ∧ x = x' := by
  have n1 := List.length_pos_iff.2 (dec_ne_nil d)
  have n2 := List.length_pos_iff.2 (dec_ne_nil d')
  unfold shortL at h
  split at h
  · split at h
    · obtain ⟨r1, r2⟩ := sci_inj h
      subst r1
      exact ⟨rfl, by omega⟩
    · rw [sci_cut] at h
      exact absurd (h ▸ List.mem_append_right _ (List.mem_cons_self ..)) (laid_noe (dec_digit d') _)
  · split at h
    · rw [sci_cut] at h
      exact absurd (h.symm ▸ List.mem_append_right _ (List.mem_cons_self ..)) (laid_noe (dec_digit d) _)
    · obtain ⟨r1, r2⟩ := laid_inj hd hd' ⟨by omega, by omega⟩ h
      subst r1
      exact ⟨rfl, by omega⟩
end Go.Proofs.YtjdelpelnjhidaaGreatDoor.Pl
