/- The document's Plain, as the print tells it, on lists of bytes: trimming and laying out. Conditions: lengths and exponents are small. -/
import Derived.Test.YtlffgepnhhnadaaDoorFpBytes
namespace Go.Proofs.YtlffgepnhhnadaaDoor.Fp
open Go.RowKit Go.Proofs.YtlffgepnhhnadaaDoorW.PrintWords Go.Proofs.YtlffgepnhhnadaaDoorW.PrintLast Go.Proofs.YtlffgepnhhnadaaDoorW.PrintMore
open Go.Proofs.YtlffgepnhhnadaaDoor.PFtoaPlains

/-- digits without zeros at either end -/
def Bare (l : List UInt8) : Prop := l = [] ∨ (l.head? ≠ some 48 ∧ l.getLast? ≠ some 48)

theorem u8_48 (c : UInt8) : ((c.toNat : Int) = 48) ↔ c = 48 := by
  constructor
  · intro h; apply UInt8.toNat_inj.1; simp; omega
  · rintro rfl; rfl

/-- the digit at a place of the number -/
def dg (s : List UInt8) (i : Int) : UInt8 := if 0 ≤ i then s.getD i.toNat 48 else 48
def run (s : List UInt8) (i : Int) (m : Nat) : List UInt8 := (List.range m).map fun j : Nat => dg s (i + (j : Int))
def nm (l : List UInt8) : List Int := l.map fun c => (c.toNat : Int)

theorem str_nm (l : List UInt8) : strOfNums (nm l) = B l := by
  unfold strOfNums nm B
  congr 2
  rw [List.map_map]
  refine (List.map_congr_left (g := id) ?_).trans (List.map_id l)
  intro c _
  simp

theorem run_cons (s : List UInt8) (i : Int) (m : Nat) : run s i (m + 1) = dg s i :: run s (i + 1) m := by
  unfold run
  rw [List.range_succ_eq_map, List.map_cons, List.map_map]
  congr 1
  · simp
  · apply List.map_congr_left
    intro j _
    simp only [Function.comp]
    congr 1
    push_cast
    omega

theorem at_dg (s : List UInt8) (e p : Int) (hs : s.length ≤ 2000) (he : -5000 ≤ e ∧ e ≤ 5000) (hp : -5000 ≤ p ∧ p ≤ 5000) :
    plumbref14_at.f (B s) e p = some ((dg s ((s.length : Int) - 1 + e - p)).toNat : Int) := by
  unfold plumbref14_at.f
  rw [B_size]
  rw [w64 (x := (s.length : Int) - 1) (by omega) (by omega), w64 (x := (s.length : Int) - 1 + e) (by omega) (by omega), w64 (x := (s.length : Int) - 1 + e - p) (by omega) (by omega)]
  unfold dg
  by_cases h : (s.length : Int) - 1 + e - p < 0
  · rw [if_pos h, if_neg (by omega)]; rfl
  · rw [if_neg h]
    by_cases h2 : (s.length : Int) - 1 + e - p ≥ s.length
    · rw [if_pos h2, if_pos (show 0 ≤ (s.length : Int) - 1 + e - p from by omega), List.getD_eq_getElem?_getD, List.getElem?_eq_none (by omega)]; rfl
    · rw [if_neg h2, if_pos (show 0 ≤ (s.length : Int) - 1 + e - p from by omega), if_pos (by omega), if_pos (show 0 ≤ (s.length : Int) - 1 + e - p from by omega)]
      obtain ⟨n, hn⟩ := Int.eq_ofNat_of_zero_le (by omega : 0 ≤ (s.length : Int) - 1 + e - p)
      rw [hn]
      have hlt : n < s.length := by omega
      rw [B_bt s n hlt]
      simp [List.getD_eq_getElem?_getD, hlt]

/-- the loop of 'plain', places below the point -/
theorem loop_low (s : List UInt8) (e : Int) (hs : s.length ≤ 2000) (he : -5000 ≤ e ∧ e ≤ 5000) (m : Nat) :
    ∀ (out : List Int), e + m - 1 ≤ -2 → out.length + m ≤ 20000 →
    Ev (fun k => plumbref14_plain.l0 k (B s) e out (e + m - 1)) (strOfNums (out ++ nm (run s ((s.length : Int) - (m : Int)) m))) := by
  induction m with
  | zero =>
    intro out hp ho
    refine Ev.step (f := fun k => plumbref14_plain.j2 k (B s) e out (e + (0 : Nat) - 1) false) (fun k => ?_) ?_
    · simp only [plumbref14_plain.l0]; rw [if_neg (by omega), decide_eq_false (by omega)]
    · refine Ev.step (f := fun _ => some (strOfNums out)) (fun k => ?_) ?_
      · simp only [plumbref14_plain.j2]; rw [if_neg (by simp)]
      · simpa [run, nm] using Ev.now _
  | succ m ih =>
    intro out hp ho
    refine Ev.step (f := fun k => plumbref14_plain.j2 k (B s) e out (e + (m + 1 : Nat) - 1) true) (fun k => ?_) ?_
    · simp only [plumbref14_plain.l0]; rw [if_neg (by omega), decide_eq_true (by omega)]
    · refine Ev.step (f := fun k => plumbref14_plain.l0 k (B s) e (out ++ [((dg s ((s.length : Int) - ((m + 1 : Nat) : Int))).toNat : Int)]) (e + m - 1)) (fun k => ?_) ?_
      · simp only [plumbref14_plain.j2]
        rw [if_pos trivial, if_neg (by omega), at_dg s e _ hs he (by omega), w64 (by omega) (by omega)]
        simp only [Option.bind_some]
        rw [if_pos (by omega)]
        congr 1
        · congr 4
          · congr 1
            push_cast; omega
        · push_cast; omega
      · have h := ih (out ++ [((dg s ((s.length : Int) - ((m + 1 : Nat) : Int))).toNat : Int)]) (by omega) (by simp; omega)
        rw [run_cons, show (s.length : Int) - ((m + 1 : Nat) : Int) + 1 = (s.length : Int) - (m : Int) from by push_cast; omega]
        simpa [nm, List.append_assoc] using h

/-- the loop of 'plain', places from the point up -/
theorem loop_high (s : List UInt8) (e : Int) (hs : s.length ≤ 2000) (he : -5000 ≤ e ∧ e ≤ 5000) (m : Nat) (hm : m ≤ 5000) :
    ∀ (out : List Int) (r : ByteArray), out.length + m ≤ 20000 →
    Ev (fun k => plumbref14_plain.l0 k (B s) e (out ++ nm (run s ((s.length : Int) + e - m) m)) (-1)) r →
    Ev (fun k => plumbref14_plain.l0 k (B s) e out ((m : Int) - 1)) r := by
  induction m with
  | zero => intro out r ho h; simpa [run, nm] using h
  | succ m ih =>
    intro out r ho h
    refine Ev.step (f := fun k => plumbref14_plain.j2 k (B s) e out (((m + 1 : Nat) : Int) - 1) true) (fun k => ?_) ?_
    · simp only [plumbref14_plain.l0]; rw [if_pos (by omega)]
    · refine Ev.step (f := fun k => plumbref14_plain.l0 k (B s) e (out ++ [((dg s ((s.length : Int) + e - ((m + 1 : Nat) : Int))).toNat : Int)]) ((m : Int) - 1)) (fun k => ?_) ?_
      · simp only [plumbref14_plain.j2]
        rw [if_pos trivial, if_neg (by omega), at_dg s e _ hs he (by omega), w64 (by omega) (by omega)]
        simp only [Option.bind_some]
        rw [if_pos (by omega)]
        congr 1
        · congr 4
          · congr 1
            push_cast; omega
        · push_cast; omega
      · refine ih (by omega) _ r (by simp; omega) ?_
        rw [run_cons, show (s.length : Int) + e - ((m + 1 : Nat) : Int) + 1 = (s.length : Int) + e - (m : Int) from by push_cast; omega] at h
        simpa [nm, List.append_assoc] using h

/-- what 'plain' of the document writes, by places -/
def plainL (s : List UInt8) (e : Int) : List UInt8 :=
  if s = [] then [48] else
    let k : Int := s.length + e
    let top : Nat := if k - 1 < 0 then 1 else k.toNat
    run s (k - top) top ++ (if e < 0 then 46 :: run s k (-e).toNat else [])

theorem plain_eq (s : List UInt8) (e : Int) (hs : s.length ≤ 2000) (he : -4000 ≤ e ∧ e ≤ 2000) :
    Ev (fun k => plumbref14_plain.f k (B s) e) (B (plainL s e)) := by
  unfold plumbref14_plain.f plainL
  rw [B_size, B_list]
  by_cases h0 : s = []
  · simp only [if_pos h0]; exact Ev.now _
  · have hl : 0 < s.length := List.length_pos_iff.2 h0
    simp only [if_neg h0]
    rw [w64 (x := (s.length : Int) - 1) (by omega) (by omega), w64 (x := (s.length : Int) - 1 + e) (by omega) (by omega)]
    have key : ∀ top : Nat, (top : Int) - 1 = (if (s.length : Int) + e - 1 < 0 then 0 else (s.length : Int) + e - 1) → top ≤ 5000 →
        Ev (fun k => plumbref14_plain.l0 k (B s) e [] ((top : Int) - 1)) (B (run s ((s.length : Int) + e - top) top ++ (if e < 0 then 46 :: run s ((s.length : Int) + e) (-e).toNat else []))) := by
      intro top ht ht2
      refine loop_high s e hs (by omega) top ht2 [] _ (by simp; omega) ?_
      by_cases hneg : e < 0
      · rw [if_pos hneg]
        obtain ⟨q, hq⟩ := Int.eq_ofNat_of_zero_le (by omega : 0 ≤ -e - 1)
        have hqe : (-e).toNat = q + 1 := by omega
        refine Ev.step (f := fun k => plumbref14_plain.j2 k (B s) e ([] ++ nm (run s ((s.length : Int) + e - top) top)) (-1) true) (fun k => ?_) ?_
        · simp only [plumbref14_plain.l0]; rw [if_neg (by omega), decide_eq_true (by omega)]
        · refine Ev.step (f := fun k => plumbref14_plain.l0 k (B s) e (nm (run s ((s.length : Int) + e - top) top) ++ [46] ++ [((dg s ((s.length : Int) + e)).toNat : Int)]) (e + q - 1)) (fun k => ?_) ?_
          · simp only [plumbref14_plain.j2]
            rw [if_pos trivial]
            have hlen : (nm (run s ((s.length : Int) + e - top) top)).length = top := by simp [nm, run]
            have hl2 : (nm (run s ((s.length : Int) + e - top) top)).length < 140737488355328 := by omega
            have hl3 : (nm (run s ((s.length : Int) + e - top) top) ++ [46]).length < 140737488355328 := by rw [List.length_append]; simp only [List.length_cons, List.length_nil]; omega
            simp only [List.nil_append]
            rw [if_pos hl2]
            simp only [Option.bind_some]
            rw [at_dg s e _ hs (by omega) (by omega), w64 (by omega) (by omega)]
            simp only [Option.bind_some]
            rw [if_pos hl3, show (s.length : Int) - 1 + e - (-1) = s.length + e from by omega, show (-1 : Int) - 1 = e + q - 1 from by omega, if_pos trivial]
          · have hlen : (nm (run s ((s.length : Int) + e - top) top)).length = top := by simp [nm, run]
            have h := loop_low s e hs (by omega) q (nm (run s ((s.length : Int) + e - top) top) ++ [46] ++ [((dg s ((s.length : Int) + e)).toNat : Int)]) (by omega) (by simp [hlen]; omega)
            rw [hqe, run_cons, show (s.length : Int) + e + 1 = (s.length : Int) - q from by omega]
            rw [← str_nm (run s ((s.length : Int) + e - top) top ++ _)]
            simpa [nm, List.append_assoc] using h
      · rw [if_neg hneg]
        refine Ev.step (f := fun k => plumbref14_plain.j2 k (B s) e ([] ++ nm (run s ((s.length : Int) + e - top) top)) (-1) false) (fun k => ?_) ?_
        · simp only [plumbref14_plain.l0]; rw [if_neg (by omega), decide_eq_false (by omega)]
        · refine Ev.step (f := fun _ => some (strOfNums ([] ++ nm (run s ((s.length : Int) + e - top) top)))) (fun k => ?_) ?_
          · simp only [plumbref14_plain.j2]; rw [if_neg (by simp)]
          · rw [← str_nm (run s ((s.length : Int) + e - top) top ++ [])]; simpa using Ev.now _
    by_cases hk : (s.length : Int) + e - 1 < 0
    · have h2 : (s.length : Int) - 1 + e < 0 := by omega
      simp only [if_pos hk, if_pos h2]
      have h := key 1 (by rw [if_pos hk]; rfl) (by omega)
      refine Ev.congr (g := fun k => plumbref14_plain.j0 k (B s) e 0) (fun _ => rfl) ?_
      refine Ev.step (f := fun k => plumbref14_plain.l0 k (B s) e [] 0) (fun k => ?_) ?_
      · simp only [plumbref14_plain.j0]
      · simpa using h
    · have h2 : ¬ (s.length : Int) - 1 + e < 0 := by omega
      simp only [if_neg hk, if_neg h2]
      have ht : (((s.length : Int) + e).toNat : Int) - 1 = (s.length : Int) - 1 + e := by omega
      have h := key ((s.length : Int) + e).toNat (by rw [if_neg hk]; omega) (by omega)
      rw [ht] at h
      refine Ev.step (f := fun k => plumbref14_plain.l0 k (B s) e [] ((s.length : Int) - 1 + e)) (fun k => ?_) h
      simp only [plumbref14_plain.j0]

/-- the program's 'laid' -/
def laidL (s : List UInt8) (point : Int) : List UInt8 :=
  if point ≤ 0 then [48, 46] ++ List.replicate (-point).toNat 48 ++ s
  else if point ≥ s.length then s ++ List.replicate (point - s.length).toNat 48
  else s.take point.toNat ++ [46] ++ s.drop point.toNat

theorem bt_last (l : List UInt8) (c : UInt8) : bt (B (l ++ [c])) (((l ++ [c]).length : Int) - 1) = (c.toNat : Int) := by
  have h : (((l ++ [c]).length : Int) - 1) = ((l.length : Nat) : Int) := by simp
  rw [h, B_bt _ _ (by simp)]
  simp

/-- the program's 'trimmed' -/
theorem ptrim (s : List UInt8) (point : Int) (hb : Bare s) (hs : s ≠ []) (hl : s.length ≤ 2000) (z : Nat) (hz : z ≤ 2000) :
    Ev (fun k => ftoa_trimmed.l0 k (B (s ++ List.replicate z 48)) point)
      (B (s ++ List.replicate (if (s.length + z : Int) ≤ max point 1 then z else (max point 1 - s.length).toNat) 48)) := by
  have hl0 : 0 < s.length := List.length_pos_iff.2 hs
  have hmx : mx point 1 = max point 1 := by unfold mx; omega
  induction z with
  | zero =>
    rw [show (if ((s.length : Int) + (0 : Nat)) ≤ max point 1 then 0 else (max point 1 - s.length).toNat) = 0 from by split <;> omega]
    simp only [List.replicate_zero, List.append_nil]
    refine Ev.step (f := fun _ => some (B s)) (fun k => ?_) (Ev.now _)
    simp only [ftoa_trimmed.l0]
    rw [B_size, hmx]
    by_cases h : (s.length : Int) > max point 1
    · rw [if_pos h, w64 (by omega) (by omega), if_pos (by omega), if_pos (by omega)]
      rcases hb with hb | ⟨_, hb⟩
      · exact (hs hb).elim
      · obtain ⟨l, c, rfl⟩ : ∃ l c, s = l ++ [c] := ⟨s.dropLast, s.getLast hs, (List.dropLast_concat_getLast hs).symm⟩
        rw [bt_last, if_neg]
        rw [u8_48]
        simpa using hb
    · rw [if_neg h]
  | succ z ih =>
    have hcat : s ++ List.replicate (z + 1) 48 = (s ++ List.replicate z 48) ++ [48] := by rw [List.replicate_succ', List.append_assoc]
    have hlen : ((s ++ List.replicate z 48) ++ [48]).length = s.length + z + 1 := by simp; omega
    rw [hcat]
    by_cases h : ((s.length : Int) + (z + 1 : Nat)) ≤ max point 1
    · rw [if_pos h, hcat]
      refine Ev.step (f := fun _ => some (B ((s ++ List.replicate z 48) ++ [48]))) (fun k => ?_) (Ev.now _)
      simp only [ftoa_trimmed.l0]
      rw [B_size, hmx, hlen, if_neg (by omega)]
    · rw [if_neg h]
      refine Ev.step (f := fun k => ftoa_trimmed.l0 k (B (s ++ List.replicate z 48)) point) (fun k => ?_) ?_
      · simp only [ftoa_trimmed.l0]
        rw [B_size, hmx, if_pos (by omega), w64 (by omega) (by omega), if_pos (by omega), if_pos (by omega), bt_last, if_pos (by rfl), if_pos (by omega)]
        congr 1
        rw [B_take]
        congr 1
        rw [List.take_append_of_le_length (by simp; omega), List.take_of_length_le (by simp; omega)]
      · have h2 := ih (by omega)
        by_cases h3 : ((s.length : Int) + (z : Nat)) ≤ max point 1
        · rw [if_pos h3] at h2
          rwa [show (max point 1 - (s.length : Int)).toNat = z from by omega]
        · rw [if_neg h3] at h2; exact h2

theorem cut_front (l : List UInt8) : ∃ a, l = List.replicate a 48 ++ l.dropWhile (· == 48) := by
  induction l with
  | nil => exact ⟨0, rfl⟩
  | cons c l ih =>
    by_cases h : c = 48
    · obtain ⟨a, ha⟩ := ih
      refine ⟨a + 1, ?_⟩
      subst h
      rw [List.dropWhile_cons_of_pos (by rfl), List.replicate_succ, List.cons_append, ← ha]
    · exact ⟨0, by rw [List.dropWhile_cons_of_neg (by simpa using h)]; rfl⟩

theorem front_ne (l : List UInt8) : (l.dropWhile (· == 48)).head? ≠ some 48 := by
  induction l with
  | nil => simp
  | cons c l ih =>
    by_cases h : c = 48
    · subst h; rwa [List.dropWhile_cons_of_pos (by rfl)]
    · rw [List.dropWhile_cons_of_neg (by simpa using h)]; simpa using h

/-- every list of digits that begins with none of the zeros: digits that count, and zeros -/
theorem cut_back (l : List UInt8) (h : l.head? ≠ some 48) : ∃ s z, l = s ++ List.replicate z 48 ∧ Bare s ∧ (l ≠ [] → s ≠ []) := by
  obtain ⟨z, hz⟩ := cut_front l.reverse
  have hr : l = (l.reverse.dropWhile (· == 48)).reverse ++ List.replicate z 48 := by
    have := congrArg List.reverse hz
    rw [List.reverse_reverse, List.reverse_append] at this
    simpa using this
  have hne := front_ne l.reverse
  generalize l.reverse.dropWhile (· == 48) = m at hr hne
  by_cases hm : m = []
  · subst hm
    cases z with
    | zero => exact ⟨[], 0, by simpa using hr, Or.inl rfl, fun hl => (hl (by simpa using hr)).elim⟩
    | succ z => rw [hr] at h; simp [List.replicate_succ] at h
  · refine ⟨m.reverse, z, hr, Or.inr ⟨?_, by simpa using hne⟩, fun _ => by simpa using hm⟩
    have : m.reverse ≠ [] := by simpa using hm
    rw [hr] at h
    generalize m.reverse = q at this h ⊢
    cases q with
    | nil => exact (this rfl).elim
    | cons c q => simpa using h

theorem rtrim_back (s : List UInt8) (hb : Bare s) (hs : s ≠ []) (hl : s.length ≤ 2000) (z : Nat) (hz : z ≤ 2000) :
    ∀ e : Int, -3000 ≤ e → e + z ≤ 6000 → Ev (fun k => plumbref14_trimmed.l1 k (B (s ++ List.replicate z 48)) e) (B s, e + z) := by
  have hl0 : 0 < s.length := List.length_pos_iff.2 hs
  induction z with
  | zero =>
    intro e he he2
    simp only [List.replicate_zero, List.append_nil]
    refine Ev.step (f := fun _ => some (B s, e + (0 : Nat))) (fun k => ?_) (Ev.now _)
    simp only [plumbref14_trimmed.l1]
    rw [B_list, if_neg hs, B_size, w64 (x := (s.length : Int) - 1) (by omega) (by omega), if_pos (by omega), if_pos (by omega)]
    rcases hb with hb | ⟨_, hb⟩
    · exact (hs hb).elim
    · obtain ⟨l, c, rfl⟩ : ∃ l c, s = l ++ [c] := ⟨s.dropLast, s.getLast hs, (List.dropLast_concat_getLast hs).symm⟩
      rw [bt_last, if_neg (by rw [u8_48]; simpa using hb)]
      simp
  | succ z ih =>
    intro e he he2
    have hcat : s ++ List.replicate (z + 1) 48 = (s ++ List.replicate z 48) ++ [48] := by rw [List.replicate_succ', List.append_assoc]
    have hlen : ((s ++ List.replicate z 48) ++ [48]).length = s.length + z + 1 := by simp; omega
    rw [hcat]
    refine Ev.step (f := fun k => plumbref14_trimmed.l1 k (B (s ++ List.replicate z 48)) (e + 1)) (fun k => ?_) ?_
    · simp only [plumbref14_trimmed.l1]
      have hw : wrap64 ((((s ++ List.replicate z 48) ++ [48]).length : Int) - 1) = (((s ++ List.replicate z 48) ++ [48]).length : Int) - 1 := w64 (by omega) (by omega)
      rw [B_list, if_neg (by simp), B_size, hw, if_pos (by omega), if_pos (by omega), bt_last, if_pos (by rfl), if_pos (by omega), w64 (x := e + 1) (by omega) (by omega)]
      congr 1
      rw [B_take]
      congr 1
      rw [List.take_append_of_le_length (by simp; omega), List.take_of_length_le (by simp; omega)]
    · have h := ih (by omega) (e + 1) (by omega) (by omega)
      rwa [show e + ((z + 1 : Nat) : Int) = e + 1 + z from by omega]

theorem rtrim_front (l : List UInt8) (e : Int) (r : ByteArray × Int)
    (h : Ev (fun k => plumbref14_trimmed.l1 k (B (l.dropWhile (· == 48))) e) r) :
    Ev (fun k => plumbref14_trimmed.f k (B l) e) r := by
  have : ∀ l : List UInt8, Ev (fun k => plumbref14_trimmed.l1 k (B (l.dropWhile (· == 48))) e) r → Ev (fun k => plumbref14_trimmed.l0 k (B l) e) r := by
    intro l
    induction l with
    | nil =>
      intro h
      refine Ev.step (f := fun k => plumbref14_trimmed.j1 k (B []) e) (fun k => by simp only [plumbref14_trimmed.l0]; rw [B_list, if_pos rfl]) ?_
      exact Ev.step (fun k => by simp only [plumbref14_trimmed.j1]; rfl) h
    | cons c l ih =>
      intro h
      have hbt : bt (B (c :: l)) 0 = (c.toNat : Int) := B_bt (c :: l) 0 (by simp)
      by_cases hc : c = 48
      · rw [List.dropWhile_cons_of_pos (by simpa using hc)] at h
        refine Ev.step (f := fun k => plumbref14_trimmed.l0 k (B l) e) (fun k => ?_) (ih h)
        simp only [plumbref14_trimmed.l0]
        rw [B_list, if_neg (by simp), B_drop, B_size, if_pos (by simp), hbt, if_pos ((u8_48 c).2 hc), if_pos (by simp; omega)]
        rfl
      · rw [List.dropWhile_cons_of_neg (by simpa using hc)] at h
        refine Ev.step (f := fun k => plumbref14_trimmed.j1 k (B (c :: l)) e) (fun k => ?_) (Ev.step (fun k => by simp only [plumbref14_trimmed.j1]) h)
        simp only [plumbref14_trimmed.l0]
        rw [B_list, if_neg (by simp), B_size, if_pos (by simp), hbt, if_neg (fun h => hc ((u8_48 c).1 h))]
  exact this l h
end Go.Proofs.YtlffgepnhhnadaaDoor.Fp
