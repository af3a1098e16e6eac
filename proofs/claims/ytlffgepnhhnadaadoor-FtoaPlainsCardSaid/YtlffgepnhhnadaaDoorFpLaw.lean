/- The plain law: what the program lays out is what the document's places give; digits or none. Conditions: lengths and exponents are small. -/
import Derived.Test.YtlffgepnhhnadaaDoorFpMath
namespace Go.Proofs.YtlffgepnhhnadaaDoor.Fp
open Go.RowKit Go.Proofs.YtlffgepnhhnadaaDoorW.PrintWords Go.Proofs.YtlffgepnhhnadaaDoorW.PrintLast Go.Proofs.YtlffgepnhhnadaaDoorW.PrintMore
open Go.Proofs.YtlffgepnhhnadaaDoor.PFtoaPlains

theorem run_get (s : List UInt8) (i : Int) (m j : Nat) : (run s i m)[j]? = if j < m then some (dg s (i + j)) else none := by
  unfold run
  by_cases h : j < m
  · rw [if_pos h]; simp [h]
  · rw [if_neg h]; simp; omega

theorem dg_in (s : List UInt8) (j : Nat) : dg s j = s.getD j 48 := by unfold dg; rw [if_pos (by omega)]; simp

/-- the digits from the first on, and zeros -/
theorem run_zero (s : List UInt8) (m : Nat) : run s 0 m = s.take m ++ List.replicate (m - s.length) 48 := by
  apply List.ext_getElem?
  intro j
  rw [run_get, show (0 : Int) + (j : Int) = (j : Int) from by omega, dg_in]
  by_cases h : j < m
  · rw [if_pos h]
    by_cases h2 : j < s.length
    · rw [List.getElem?_append_left (by simp; omega), List.getElem?_take_of_lt h, List.getD_eq_getElem?_getD]
      simp [h2]
    · rw [List.getElem?_append_right (by simp; omega), List.getD_eq_getElem?_getD, List.getElem?_eq_none (by omega)]
      simp only [List.length_take, List.getElem?_replicate]
      rw [if_pos (by omega)]; rfl
  · rw [if_neg h]
    rw [List.getElem?_eq_none]
    simp; omega

theorem run_split (s : List UInt8) (i : Int) (a b : Nat) : run s i (a + b) = run s i a ++ run s (i + a) b := by
  induction a generalizing i with
  | zero => simp [run]
  | succ a ih => rw [show a + 1 + b = (a + b) + 1 from by omega, run_cons, ih, run_cons, List.cons_append, show i + 1 + (a : Int) = i + ((a + 1 : Nat) : Int) from by omega]

theorem run_neg (s : List UInt8) (a : Nat) : run s (-(a : Int)) a = List.replicate a 48 := by
  apply List.ext_getElem?
  intro j
  rw [run_get, List.getElem?_replicate]
  by_cases h : j < a
  · rw [if_pos h, if_pos h]
    unfold dg
    rw [if_neg (by omega)]
  · rw [if_neg h, if_neg h]

theorem run_from (s : List UInt8) (a : Nat) (h : a ≤ s.length) : run s a (s.length - a) = s.drop a := by
  apply List.ext_getElem?
  intro j
  rw [run_get, List.getElem?_drop]
  by_cases hj : j < s.length - a
  · rw [if_pos hj, show (a : Int) + (j : Int) = ((a + j : Nat) : Int) from by omega, dg_in, List.getD_eq_getElem?_getD]
    rw [List.getElem?_eq_getElem (by omega : a + j < s.length)]; rfl
  · rw [if_neg hj, List.getElem?_eq_none (by omega)]

theorem law (s : List UInt8) (hs : s ≠ []) (z : Nat) (e : Int) :
    laidL (s ++ List.replicate (if (s.length + z : Int) ≤ max ((s.length : Int) + z + e) 1 then z else (max ((s.length : Int) + z + e) 1 - s.length).toNat) 48) ((s.length : Int) + z + e) = plainL s (e + z) := by
  have hl0 : 0 < s.length := List.length_pos_iff.2 hs
  unfold laidL plainL
  rw [if_neg hs]
  simp only
  by_cases hp : (s.length : Int) + z + e ≤ 0
  · -- ahead of the digits
    rw [if_pos hp]
    have ht : (if (s.length : Int) + (e + z) - 1 < 0 then 1 else ((s.length : Int) + (e + z)).toNat) = 1 := by rw [if_pos (by omega)]
    rw [ht, if_pos (by omega : e + z < 0)]
    have hz : (if (s.length + z : Int) ≤ max ((s.length : Int) + z + e) 1 then z else (max ((s.length : Int) + z + e) 1 - s.length).toNat) = 0 := by
      split <;> omega
    rw [hz]
    obtain ⟨a, ha⟩ := Int.eq_ofNat_of_zero_le (by omega : 0 ≤ -((s.length : Int) + z + e))
    have h1 : (s.length : Int) + (e + z) = -(a : Int) := by omega
    have h2 : (-(e + z)).toNat = a + s.length := by omega
    rw [h1, h2, run_split, run_neg, show -(a : Int) + (a : Int) = 0 from by omega, run_zero, ha]
    have h3 : run s (-(a : Int) - ((1 : Nat) : Int)) 1 = [48] := by
      have := run_neg s (a + 1)
      unfold run dg
      simp only [List.range_one, List.map_cons, List.map_nil]
      rw [if_neg (by omega)]
    rw [h3]
    simp
  · rw [if_neg hp]
    by_cases he : e + z < 0
    · -- the point is among the digits
      have hz : (if (s.length + z : Int) ≤ max ((s.length : Int) + z + e) 1 then z else (max ((s.length : Int) + z + e) 1 - s.length).toNat) = 0 := by
        split <;> omega
      rw [hz, if_pos he, if_neg (by simp; omega)]
      simp only [List.replicate_zero, List.append_nil]
      obtain ⟨a, ha⟩ := Int.eq_ofNat_of_zero_le (by omega : 0 ≤ (s.length : Int) + z + e)
      have h1 : (s.length : Int) + (e + z) = (a : Int) := by omega
      have h2 : (-(e + z)).toNat = s.length - a := by omega
      rw [h1, h2, if_neg (by omega : ¬ (a : Int) - 1 < 0), ha]
      simp only [Int.toNat_natCast]
      rw [show (a : Int) - (a : Int) = 0 from by omega, run_zero, run_from s a (by omega), show a - s.length = 0 from by omega]
      simp
    · -- no point
      rw [if_neg he]
      obtain ⟨a, ha⟩ := Int.eq_ofNat_of_zero_le (by omega : 0 ≤ (s.length : Int) + z + e)
      have h1 : (s.length : Int) + (e + z) = (a : Int) := by omega
      rw [h1, if_neg (by omega : ¬ (a : Int) - 1 < 0), ha]
      simp only [Int.toNat_natCast]
      rw [show (a : Int) - (a : Int) = 0 from by omega, run_zero]
      by_cases h5 : (s.length + z : Int) ≤ max (a : Int) 1
      · rw [if_pos h5, if_pos (by simp; omega), List.take_of_length_le (by omega)]
        simp only [List.append_nil, List.append_assoc, List.replicate_append_replicate]
        congr 2
        simp
        omega
      · rw [if_neg h5, if_pos (by simp; omega), List.take_of_length_le (by omega)]
        simp only [List.append_nil, List.append_assoc, List.replicate_append_replicate]
        congr 2
        simp
        omega

/-- is each byte a digit? -/
def digs (l : List UInt8) : Bool := l.all fun c => decide (48 ≤ (c.toNat : Int)) && decide ((c.toNat : Int) ≤ 57)

theorem digs_get (l : List UInt8) (h : digs l = true) (i : Nat) (hi : i < l.length) : 48 ≤ (l[i].toNat : Int) ∧ (l[i].toNat : Int) ≤ 57 := by
  unfold digs at h
  have := List.all_eq_true.1 h l[i] (List.getElem_mem hi)
  simpa using this

/-- the document's loop over the digits -/
theorem ref_loop (l : List UInt8) (e : Int) (hl : l.length ≤ 2000) (r : ByteArray × Int) (n : Nat) : ∀ i : Nat, i + n = l.length →
    ((∀ j, (hj : j < l.length) → i ≤ j → 48 ≤ (l[j].toNat : Int) ∧ (l[j].toNat : Int) ≤ 57) → Ev (fun k => plumbref14_Plain.l0 k (B l) e l.length) r) →
    ((∃ j, ∃ hj : j < l.length, i ≤ j ∧ ¬(48 ≤ (l[j].toNat : Int) ∧ (l[j].toNat : Int) ≤ 57)) → r = ((⟨#[]⟩ : ByteArray), 41)) →
    Ev (fun k => plumbref14_Plain.l0 k (B l) e i) r := by
  induction n with
  | zero =>
    intro i hi h1 _
    obtain rfl : i = l.length := by omega
    exact h1 (fun j hj hij => by omega)
  | succ n ih =>
    intro i hi h1 h2
    have hlt : i < l.length := by omega
    by_cases hd : 48 ≤ (l[i].toNat : Int) ∧ (l[i].toNat : Int) ≤ 57
    · refine Ev.step (f := fun k => plumbref14_Plain.l0 k (B l) e ((i + 1 : Nat) : Int)) (fun k => ?_) (ih (i + 1) (by omega) ?_ ?_)
      · simp only [plumbref14_Plain.l0]
        rw [B_size, if_pos (by omega), if_pos (by omega), B_bt l i hlt, if_neg (by omega), if_neg (by omega), w64 (by omega) (by omega)]
        rfl
      · intro h
        exact h1 (fun j hj hij => by
          by_cases hji : j = i
          · subst hji; exact hd
          · exact h j hj (by omega))
      · rintro ⟨j, hj, hij, hx⟩
        exact h2 ⟨j, hj, by omega, hx⟩
    · have := h2 ⟨i, hlt, Nat.le_refl _, hd⟩
      subst this
      refine Ev.step (f := fun _ => some ((⟨#[]⟩ : ByteArray), (41 : Int))) (fun k => ?_) (Ev.now _)
      simp only [plumbref14_Plain.l0]
      rw [B_size, if_pos (by omega), if_pos (by omega), B_bt l i hlt]
      by_cases h3 : (l[i].toNat : Int) < 48
      · rw [if_pos h3]
      · rw [if_neg h3, if_pos (by omega)]

theorem digs_no (l : List UInt8) (h : digs l = false) : ∃ j, ∃ hj : j < l.length, ¬(48 ≤ (l[j].toNat : Int) ∧ (l[j].toNat : Int) ≤ 57) := by
  unfold digs at h
  obtain ⟨c, hc, hx⟩ := List.all_eq_false.1 h
  obtain ⟨j, hj, rfl⟩ := List.getElem_of_mem hc
  exact ⟨j, hj, by simpa using hx⟩

theorem ref_bad (l : List UInt8) (e : Int) (hl : l.length ≤ 2000) (h : digs l = false) : Ev (fun k => plumbref14_Plain.f k (B l) e) (⟨#[]⟩, 41) := by
  obtain ⟨j, hj, hx⟩ := digs_no l h
  exact ref_loop l e hl _ l.length 0 (by omega) (fun h => (hx (h j hj (by omega))).elim) (fun _ => rfl)

theorem ref_none (e : Int) : Ev (fun k => plumbref14_Plain.f k (B []) e) (⟨#[]⟩, 41) := by
  refine ref_loop [] e (by simp) _ 0 0 rfl (fun _ => ?_) (fun ⟨j, hj, _⟩ => by simp at hj)
  refine Ev.step (f := fun _ => some ((⟨#[]⟩ : ByteArray), (41 : Int))) (fun k => ?_) (Ev.now _)
  simp only [plumbref14_Plain.l0]
  rw [B_size, B_list, if_neg (by simp), if_pos rfl]

theorem ref_far (l : List UInt8) (e : Int) (hl : l.length ≤ 2000) (hn : l ≠ []) (h : digs l = true) (he : e < -1100 ∨ 1100 < e) : Ev (fun k => plumbref14_Plain.f k (B l) e) (⟨#[]⟩, 130) := by
  refine ref_loop l e hl _ l.length 0 (by omega) (fun _ => ?_) (fun ⟨j, hj, _, hx⟩ => (hx (digs_get l h j hj)).elim)
  refine Ev.step (f := fun k => plumbref14_Plain.j1 k (B l) e true) (fun k => ?_) ?_
  · simp only [plumbref14_Plain.l0]
    rw [B_size, B_list, if_neg (by omega), if_neg hn]
    by_cases h1 : e < -1100
    · rw [if_pos h1]
    · rw [if_neg h1, decide_eq_true (by omega)]
  · refine Ev.step (f := fun _ => some ((⟨#[]⟩ : ByteArray), (130 : Int))) (fun k => ?_) (Ev.now _)
    simp only [plumbref14_Plain.j1]
    rw [if_pos trivial]

theorem ref_near (l : List UInt8) (e : Int) (hl : l.length ≤ 2000) (hn : l ≠ []) (h : digs l = true) (he : -1100 ≤ e ∧ e ≤ 1100) (s : List UInt8) (e' : Int)
    (ht : Ev (fun k => plumbref14_trimmed.f k (B l) e) (B s, e')) (hs : s.length ≤ 2000) (he' : -4000 ≤ e' ∧ e' ≤ 2000) :
    Ev (fun k => plumbref14_Plain.f k (B l) e) (B (plainL s e'), 0) := by
  refine ref_loop l e hl _ l.length 0 (by omega) (fun _ => ?_) (fun ⟨j, hj, _, hx⟩ => (hx (digs_get l h j hj)).elim)
  refine Ev.step (f := fun k => plumbref14_Plain.j1 k (B l) e false) (fun k => ?_) ?_
  · simp only [plumbref14_Plain.l0]
    rw [B_size, B_list, if_neg (by omega), if_neg hn, if_neg (by omega), decide_eq_false (by omega)]
  · refine Ev.step (f := fun k => (plumbref14_trimmed.f k (B l) e).bind fun bt116 => ((plumbref14_plain.f k bt116.1 bt116.2).bind fun t118 => (some (t118, 0)))) (fun k => ?_) ?_
    · simp only [plumbref14_Plain.j1]
      rw [if_neg (by simp)]
    · refine Ev.bind ht (Ev.bind (plain_eq s e' hs (by omega)) (Ev.now _))

theorem ref_zero (l : List UInt8) (e : Int) (hl : l.length ≤ 2000) (hn : l ≠ []) (h : digs l = true) (he : -1100 ≤ e ∧ e ≤ 1100) (h0 : l.dropWhile (· == 48) = []) :
    Ev (fun k => plumbref14_Plain.f k (B l) e) (B [48], 0) := by
  have := ref_near l e hl hn h he [] e (rtrim_front l e _ (by
    rw [h0]
    refine Ev.step (f := fun _ => some (B [], e)) (fun k => ?_) (Ev.now _)
    simp only [plumbref14_trimmed.l1]
    rw [B_list, if_pos rfl])) (by simp) (by omega)
  simpa [plainL] using this

theorem ref_yes (l : List UInt8) (e : Int) (hl : l.length ≤ 400) (hn : l ≠ []) (h : digs l = true) (he : -1100 ≤ e ∧ e ≤ 1100) (s : List UInt8) (z : Nat) (h0 : l.dropWhile (· == 48) = s ++ List.replicate z 48) (hb : Bare s) (hs : s ≠ []) :
    Ev (fun k => plumbref14_Plain.f k (B l) e) (B (laidL (s ++ List.replicate (if (s.length + z : Int) ≤ max ((s.length : Int) + z + e) 1 then z else (max ((s.length : Int) + z + e) 1 - s.length).toNat) 48) ((s.length : Int) + z + e)), 0) := by
  have hle : s.length + z ≤ l.length := by
    have h1 := congrArg List.length h0
    have h2 := (List.dropWhile_sublist (fun c : UInt8 => c == 48) (l := l)).length_le
    simp at h1; omega
  rw [law s hs z e]
  refine ref_near l e (by omega) hn h he s (e + z) (rtrim_front l e _ ?_) (by omega) (by omega)
  rw [h0]
  exact rtrim_back s hb hs (by omega) z (by omega) e (by omega) (by omega)
end Go.Proofs.YtlffgepnhhnadaaDoor.Fp
