/- ftoa's laid and Plain, walked. Conditions: lengths and exponents are small. -/
import Derived.Test.YtlffgepnhhnadaaDoorFpLaw
import Derived.Test.YtlffgepnhhnadaaDoorShelf
import Derived.WalkKit
import Derived.Deep.QuietTactic
import Derived.BigQuiet
import Derived.Lib.Hide
namespace Go.Proofs.YtlffgepnhhnadaaDoor.Fp
open Go.RowKit Go.Proofs.YtlffgepnhhnadaaDoorW.PrintWords Go.Proofs.YtlffgepnhhnadaaDoorW.PrintLast Go.Proofs.YtlffgepnhhnadaaDoorW.PrintMore
open Go.Proofs.YtlffgepnhhnadaaDoor.PFtoaPlains

theorem rep48 (c : Nat) : (⟨(Lib.repeatL (⟨#[48]⟩ : ByteArray).data.toList c).toArray⟩ : ByteArray) = B (List.replicate c 48) := by
  have h : Lib.repeatL [48] c = List.replicate c 48 := by
    induction c with
    | zero => rfl
    | succ c ih => rw [List.replicate_succ, ← ih]; rfl
  unfold B
  rw [← h]

theorem B_add (l m : List UInt8) : B l ++ B m = B (l ++ m) := by
  rw [← B_data (B l ++ B m)]
  rw [show (B l ++ B m).data.toList = l ++ m from by simp [B]]

theorem B_cons (c : UInt8) : (⟨#[c]⟩ : ByteArray) = B [c] := rfl

theorem laid_le (l : List UInt8) (c : Nat) (w : World) (hl : l.length ≤ 2000) (hc : c ≤ 4000) :
    Calls Tryd.prog 41 #[.string (B l), .int .i64 (-(c : Int))] w fun e w' => e = .returned (.string (B (laidL l (-(c : Int))))) ∧ Below w.heap.size w w' := by
  have h1 : (-(c : Int)) ≤ 0 := by omega
  have hfin : B [48, 46] ++ B (List.replicate c 48) ++ B l = B (laidL l (-(c : Int))) := by
    unfold laidL
    rw [if_pos h1, B_add, B_add, show (- -(c : Int)).toNat = c from by omega]
  have HF := Lib.hid hfin
  clear hfin
  have b1 : (B l).size ≤ 2000 := by rw [B_size]; omega
  have b2 : (B (List.replicate c 48)).size ≤ 4000 := by rw [B_size]; simpa using hc
  have hr := Tryd.strings_Repeat ⟨#[48]⟩ c
  rw [rep48] at hr
  have HR := Lib.hid hr
  clear hr
  go_enter Tryd.func41, Tryd.ntmps41
  go_wp2_with fail
  refine (HR.out w (by omega) (by show 1 * c ≤ _; omega)).mono ?_
  rintro e w1 ⟨rfl, hb⟩
  go_wp2_with fail
  go_ret
  exact ⟨congrArg (fun s => Ending.returned (Value.string s)) HF.out, hb⟩

theorem laid_ge (l : List UInt8) (c : Nat) (w : World) (hl : l.length ≤ 2000) (hc : c ≤ 4000) (h0 : 0 < l.length + c) :
    Calls Tryd.prog 41 #[.string (B l), .int .i64 ((l.length : Int) + c)] w fun e w' => e = .returned (.string (B (laidL l ((l.length : Int) + c)))) ∧ Below w.heap.size w w' := by
  have hsz := B_size l
  have HS := Lib.hid hsz
  clear hsz
  have h1 : ¬ ((l.length : Int) + c ≤ 0) := by omega
  have h2 : ((l.length : Int) + c ≥ (B l).size) := by rw [HS.out]; omega
  have hfin : B l ++ B (List.replicate c 48) = B (laidL l ((l.length : Int) + c)) := by
    unfold laidL
    rw [if_neg h1, if_pos (by omega), B_add, show ((l.length : Int) + c - l.length).toNat = c from by omega]
  have HF := Lib.hid hfin
  clear hfin
  have b1 : (B l).size ≤ 2000 := by rw [B_size]; omega
  have b2 : (B (List.replicate c 48)).size ≤ 4000 := by rw [B_size]; simpa using hc
  have hr := Tryd.strings_Repeat ⟨#[48]⟩ c
  rw [rep48] at hr
  have HR := Lib.hid hr
  clear hr
  go_enter Tryd.func41, Tryd.ntmps41
  go_wp2_with fail
  rw [show ((l.length : Int) + c - (B l).size) = (c : Int) from by rw [HS.out]; omega]
  refine (HR.out w (by omega) (by show 1 * c ≤ _; omega)).mono ?_
  rintro e w1 ⟨rfl, hb⟩
  go_wp2_with fail
  go_ret
  exact ⟨congrArg (fun s => Ending.returned (Value.string s)) HF.out, hb⟩

theorem laid_in (l : List UInt8) (k : Nat) (w : World) (hl : l.length ≤ 2000) (h0 : 0 < k) (hk : k < l.length) :
    Calls Tryd.prog 41 #[.string (B l), .int .i64 (k : Int)] w fun e w' => e = .returned (.string (B (laidL l k))) ∧ Below w.heap.size w w' := by
  have hsz := B_size l
  have HS := Lib.hid hsz
  clear hsz
  have h1 : ¬ ((k : Int) ≤ 0) := by omega
  have h2 : ¬ ((k : Int) ≥ (B l).size) := by rw [HS.out]; omega
  have h3 : k ≤ (B l).size := by rw [HS.out]; omega
  have h4 : (k : Int) ≤ (B l).size := by rw [HS.out]; omega
  have b1 : (B l).size ≤ 2000 := by rw [B_size]; omega
  have hfin : (B l).extract 0 k ++ B [46] ++ (B l).extract k (B l).size = B (laidL l k) := by
    unfold laidL
    rw [if_neg h1, if_neg (by omega), B_take, B_drop, B_add, B_add, Int.toNat_natCast]
  have HF := Lib.hid hfin
  clear hfin
  go_enter Tryd.func41, Tryd.ntmps41
  go_wp2
  go_quiet (fail)
  go_wp2
  go_ret
  exact ⟨congrArg (fun s => Ending.returned (Value.string s)) HF.out, pw_below_drewN (Below.refl _ _) _⟩

theorem laid_any (l : List UInt8) (p : Int) (w : World) (hl : l.length ≤ 2000) (hp : -4000 ≤ p ∧ p ≤ 4000) (h0 : l ≠ []) :
    Calls Tryd.prog 41 #[.string (B l), .int .i64 p] w fun e w' => e = .returned (.string (B (laidL l p))) ∧ Below w.heap.size w w' := by
  have hl0 : 0 < l.length := List.length_pos_iff.2 h0
  by_cases h1 : p ≤ 0
  · obtain ⟨c, hc⟩ := Int.eq_ofNat_of_zero_le (by omega : 0 ≤ -p)
    obtain rfl : p = -(c : Int) := by omega
    exact laid_le l c w hl (by omega)
  · by_cases h2 : p ≥ l.length
    · obtain ⟨c, hc⟩ := Int.eq_ofNat_of_zero_le (by omega : 0 ≤ p - l.length)
      obtain rfl : p = (l.length : Int) + c := by omega
      exact laid_ge l c w hl (by omega) (by omega)
    · obtain ⟨c, rfl⟩ := Int.eq_ofNat_of_zero_le (by omega : 0 ≤ p)
      exact laid_in l c w hl (by omega) (by omega)

theorem getB (l : List UInt8) (k : Nat) (_h : k < l.length) (_h' : k < (B l).size) : (B l)[k] = l[k] := by simp [B]; rfl

/-- a byte that is no digit, or no byte at all -/
theorem Plain_bad (l : List UInt8) (e : Int) (w : World) (hl : l.length ≤ 2000) (h : digs l = false) :
    Calls Tryd.prog 12 #[.string (B l), .int .i64 e] w fun en w' => en = .returned (.tuple #[.string ⟨#[]⟩, .int .i64 41]) ∧ Below w.heap.size w w' := by
  obtain ⟨j, hj, hx⟩ := digs_no l h
  have hn : (B l).toList ≠ [] := by rw [B_list]; rintro rfl; simp at hj
  have hn2 : ((B l).toList == ([] : List UInt8)) = false := beq_eq_false_iff_ne.mpr hn
  have hn3 : ((B l).toList.isEmpty) = false := by rw [B_list]; cases l with | nil => simp at hj | cons => rfl
  have b1 : (B l).size ≤ 2000 := by rw [B_size]; omega
  have HS := Lib.hid (B_size l)
  clear hn h
  go_enter Tryd.func12, Tryd.ntmps12
  go_wp2
  go_loop [13] (fun i => ∃ k : Nat, k ≤ j ∧ i = .int .i64 k) (fun i => (B l).size - (intOf i).toNat)
  case atStart => exact ⟨0, Nat.zero_le _, rfl⟩
  case round =>
    obtain ⟨k, hk, rfl⟩ := hrel
    have hlt : k < (B l).size := by rw [HS.out]; omega
    have hg := getB l k (by omega) hlt
    have HG := Lib.hid hg
    clear hg
    go_wp2
    · go_ret2
      exact ⟨rfl, Below.refl _ _⟩
    · have h1 : 48 ≤ ((B l)[k].toNat : Int) ∧ ((B l)[k].toNat : Int) ≤ 57 := by assumption
      rw [HG.out] at h1
      go_round
      case rel =>
        refine ⟨k + 1, ?_, by go_num⟩
        rcases Nat.lt_or_eq_of_le hk with h2 | h2
        · omega
        · subst h2; exact (hx h1).elim
      case measure => simp [intOf]; omega
    · go_ret2
      exact ⟨rfl, Below.refl _ _⟩

theorem Plain_none (e : Int) (w : World) :
    Calls Tryd.prog 12 #[.string (B []), .int .i64 e] w fun en w' => en = .returned (.tuple #[.string ⟨#[]⟩, .int .i64 41]) ∧ Below w.heap.size w w' := by
  have h : B [] = (⟨#[]⟩ : ByteArray) := rfl
  rw [h]
  clear h
  go_enter Tryd.func12, Tryd.ntmps12
  go_wp2
  go_ret2
  exact ⟨rfl, Below.refl _ _⟩

/-- a digit's place in the walk's own spelling -/
theorem digB (l : List UInt8) (hd : digs l = true) (k : Nat) (h : k < (B l).size) : 48 ≤ ((B l)[k].toNat : Int) ∧ ((B l)[k].toNat : Int) ≤ 57 := by
  have h' : k < l.length := by rwa [B_size] at h
  rw [getB l k h' h]
  exact digs_get l hd k h'

theorem Plain_far (l : List UInt8) (e : Int) (w : World) (hl : l.length ≤ 2000) (hn : l ≠ []) (hd : digs l = true) (he : e < -1100 ∨ 1100 < e) :
    Calls Tryd.prog 12 #[.string (B l), .int .i64 e] w fun en w' => en = .returned (.tuple #[.string ⟨#[]⟩, .int .i64 130]) ∧ Below w.heap.size w w' := by
  have hn2 : ((B l).toList == ([] : List UInt8)) = false := beq_eq_false_iff_ne.mpr (by rw [B_list]; exact hn)
  have hn3 : ((B l).toList.isEmpty) = false := by rw [B_list]; cases l with | nil => exact (hn rfl).elim | cons => rfl
  have b1 : (B l).size ≤ 2000 := by rw [B_size]; omega
  have HD := Lib.hid (digB l hd)
  clear hn hd
  go_enter Tryd.func12, Tryd.ntmps12
  go_wp2
  go_loop [13] (fun i => ∃ k : Nat, k ≤ (B l).size ∧ i = .int .i64 k) (fun i => (B l).size - (intOf i).toNat)
  case atStart => exact ⟨0, Nat.zero_le _, rfl⟩
  case round =>
    obtain ⟨k, hk, rfl⟩ := hrel
    by_cases hlt : k < (B l).size
    · have ⟨d1, d2⟩ := HD.out k hlt
      go_wp2
      go_round
      case rel => exact ⟨k + 1, by omega, by go_num⟩
      case measure => simp [intOf]; omega
    · rcases he with he | he
      · go_wp2
        go_ret2
        exact ⟨rfl, Below.refl _ _⟩
      · have he2 : ¬ e < -1100 := by omega
        go_wp2
        go_ret2
        exact ⟨rfl, Below.refl _ _⟩

theorem trimB_eq (l : List UInt8) : Lib.trimLeftB l 48 = l.dropWhile (· == 48) := by
  induction l with
  | nil => rfl
  | cons c l ih => simp [Lib.trimLeftB, List.dropWhile_cons]

theorem Plain_zero (l : List UInt8) (e : Int) (w : World) (hl : l.length ≤ 2000) (hn : l ≠ []) (hd : digs l = true) (he1 : -1100 ≤ e) (he2 : e ≤ 1100) (h0 : l.dropWhile (· == 48) = []) :
    Calls Tryd.prog 12 #[.string (B l), .int .i64 e] w fun en w' => en = .returned (.tuple #[.string (B [48]), .int .i64 0]) ∧ Below w.heap.size w w' := by
  have hn2 : ((B l).toList == ([] : List UInt8)) = false := beq_eq_false_iff_ne.mpr (by rw [B_list]; exact hn)
  have hn3 : ((B l).toList.isEmpty) = false := by rw [B_list]; cases l with | nil => exact (hn rfl).elim | cons => rfl
  have b1 : (B l).size ≤ 2000 := by rw [B_size]; omega
  have HD := Lib.hid (digB l hd)
  have ht := Tryd.strings_TrimLeft_one (B l) 48 (by decide)
  rw [trimB_eq, show (B l).data.toList = l from by simp [B], h0] at ht
  have HT := Lib.hid ht
  clear hn hd ht h0
  go_enter Tryd.func12, Tryd.ntmps12
  go_wp2
  go_loop [13] (fun i => ∃ k : Nat, k ≤ (B l).size ∧ i = .int .i64 k) (fun i => (B l).size - (intOf i).toNat)
  case atStart => exact ⟨0, Nat.zero_le _, rfl⟩
  case round =>
    obtain ⟨k, hk, rfl⟩ := hrel
    by_cases hlt : k < (B l).size
    · have ⟨d1, d2⟩ := HD.out k hlt
      go_wp2
      go_round
      case rel => exact ⟨k + 1, by omega, by go_num⟩
      case measure => simp [intOf]; omega
    · go_wp2_with fail
      refine (HT.out _).mono ?_
      rintro en w1 ⟨rfl, rfl⟩
      go_wp2
      go_ret2
      exact ⟨rfl, Below.refl _ _⟩

theorem Plain_yes (l : List UInt8) (e : Int) (w : World) (hl : l.length ≤ 400) (hn : l ≠ []) (hd : digs l = true) (he1 : -1100 ≤ e) (he2 : e ≤ 1100) (s : List UInt8) (z : Nat) (h0 : l.dropWhile (· == 48) = s ++ List.replicate z 48) (hb : Bare s) (hs : s ≠ []) :
    Calls Tryd.prog 12 #[.string (B l), .int .i64 e] w fun en w' => en = .returned (.tuple #[.string (B (laidL (s ++ List.replicate (if (s.length + z : Int) ≤ max ((s.length : Int) + z + e) 1 then z else (max ((s.length : Int) + z + e) 1 - s.length).toNat) 48) ((s.length : Int) + z + e))), .int .i64 0]) ∧ Below w.heap.size w w' := by
  have hle : s.length + z ≤ l.length := by
    have h1 := congrArg List.length h0
    have h2 := (List.dropWhile_sublist (fun c : UInt8 => c == 48) (l := l)).length_le
    simp at h1; omega
  have hs0 : 0 < s.length := List.length_pos_iff.2 hs
  have hn2 : ((B l).toList == ([] : List UInt8)) = false := beq_eq_false_iff_ne.mpr (by rw [B_list]; exact hn)
  have hn3 : ((B l).toList.isEmpty) = false := by rw [B_list]; cases l with | nil => exact (hn rfl).elim | cons => rfl
  have b1 : (B l).size ≤ 2000 := by rw [B_size]; omega
  have HD := Lib.hid (digB l hd)
  have ht := Tryd.strings_TrimLeft_one (B l) 48 (by decide)
  rw [trimB_eq, show (B l).data.toList = l from by simp [B], h0] at ht
  obtain ⟨k0, hp⟩ := (ptrim s ((s.length : Int) + z + e) hb hs (by omega) z (by omega)).rounds
  have hpt := fun w => ftoa_trimmed.calls k0 (B (s ++ List.replicate z 48)) ((s.length : Int) + z + e) _ w hp
  generalize hq : s ++ List.replicate (if (s.length + z : Int) ≤ max ((s.length : Int) + z + e) 1 then z else (max ((s.length : Int) + z + e) 1 - s.length).toNat) 48 = q at hp hpt ⊢
  have hql : q ≠ [] ∧ q.length ≤ 2000 := by
    subst hq
    refine ⟨by simp [hs], ?_⟩
    simp only [List.length_append, List.length_replicate]
    split <;> omega
  have hla := fun w => laid_any q ((s.length : Int) + z + e) w hql.2 (by omega) hql.1
  generalize hm : s ++ List.replicate z 48 = m at ht hpt
  have hml : m.length = s.length + z := by subst hm; simp
  have ht2 : ∀ w, Calls Tryd.prog 40 #[.string (B l), .string ⟨#[48]⟩] w fun e w' => e = .returned (.string (B m)) ∧ w' = w := ht
  have hm2 : ((B m).toList == ([] : List UInt8)) = false := beq_eq_false_iff_ne.mpr (by
    rw [B_list]; rintro rfl; simp at hml; omega)
  have hm3 : ((B m).toList.isEmpty) = false := by
    rw [B_list]; cases m with | nil => simp at hml; omega | cons => rfl
  have hms : ((B m).size : Int) + e = (s.length : Int) + z + e := by
    rw [B_size]; omega
  have b2 : (B m).size ≤ 2000 := by
    rw [B_size]; omega
  have HMS := Lib.hid hms
  have HPT := Lib.hid hpt
  have HLA := Lib.hid hla
  have HT := Lib.hid ht2
  clear hn hd ht ht2 h0 hpt hla hms hml hm hq hql hp hb hs
  go_enter Tryd.func12, Tryd.ntmps12
  go_wp2
  go_loop [13] (fun i => ∃ k : Nat, k ≤ (B l).size ∧ i = .int .i64 k) (fun i => (B l).size - (intOf i).toNat)
  case atStart => exact ⟨0, Nat.zero_le _, rfl⟩
  case round =>
    obtain ⟨k, hk, rfl⟩ := hrel
    by_cases hlt : k < (B l).size
    · have ⟨d1, d2⟩ := HD.out k hlt
      go_wp2
      go_round
      case rel => exact ⟨k + 1, by omega, by go_num⟩
      case measure => simp [intOf]; omega
    · go_wp2_with fail
      refine (HT.out _).mono ?_
      rintro en w1 ⟨rfl, rfl⟩
      go_wp2_with fail
      rw [HMS.out]
      refine (HPT.out _).mono ?_
      rintro en w1 ⟨rfl, hb1⟩
      go_wp2_with fail
      refine (HLA.out _).mono ?_
      rintro en w1 ⟨rfl, hb2⟩
      go_wp2
      go_ret2
      exact ⟨rfl, hb1.trans (hb2.mono hb1.size)⟩

theorem both (l : List UInt8) (e : Int) (hl : l.length ≤ 400) : ∃ (r : ByteArray) (f : Int),
    (∀ w, Calls Tryd.prog 12 #[.string (B l), .int .i64 e] w fun en w' => en = .returned (.tuple #[.string r, .int .i64 f]) ∧ Below w.heap.size w w') ∧
    (∀ w, Calls Tryd.prog 13 #[.string (B l), .int .i64 e] w fun en w' => en = .returned (.tuple #[.string r, .int .i64 f]) ∧ Below w.heap.size w w') := by
  have ref : ∀ (r : ByteArray) (f : Int), Ev (fun k => plumbref14_Plain.f k (B l) e) (r, f) → ∀ w, Calls Tryd.prog 13 #[.string (B l), .int .i64 e] w fun en w' => en = .returned (.tuple #[.string r, .int .i64 f]) ∧ Below w.heap.size w w' := by
    intro r f h w
    obtain ⟨k, hk⟩ := h.rounds
    exact plumbref14_Plain.calls k _ _ _ _ w hk
  by_cases hn : l = []
  · subst hn
    exact ⟨⟨#[]⟩, 41, fun w => Plain_none e w, ref _ _ (ref_none e)⟩
  by_cases hd : digs l = true
  · by_cases he : e < -1100 ∨ 1100 < e
    · exact ⟨⟨#[]⟩, 130, fun w => Plain_far l e w (by omega) hn hd he, ref _ _ (ref_far l e (by omega) hn hd he)⟩
    · by_cases h0 : l.dropWhile (· == 48) = []
      · exact ⟨B [48], 0, fun w => Plain_zero l e w (by omega) hn hd (by omega) (by omega) h0, ref _ _ (ref_zero l e (by omega) hn hd (by omega) h0)⟩
      · obtain ⟨s, z, h1, hb, hs⟩ := cut_back _ (front_ne l)
        exact ⟨_, 0, fun w => Plain_yes l e w hl hn hd (by omega) (by omega) s z h1 hb (hs h0), ref _ _ (ref_yes l e hl hn hd (by omega) s z h1 hb (hs h0))⟩
  · have hd' : digs l = false := by simpa using hd
    exact ⟨⟨#[]⟩, 41, fun w => Plain_bad l e w (by omega) hd', ref _ _ (ref_bad l e (by omega) hd')⟩

theorem ftoaPlains_walk (s : ByteArray) (e : Int) (w : World) (hs : s.size ≤ maxLen) :
    Calls Tryd.prog 3 #[.string s, .int .i64 e] w fun en w' => en = .returned (.bool true) ∧ Below w.heap.size w w' := by
  unfold maxLen at hs
  rw [← B_data s] at hs ⊢
  generalize s.data.toList = l at hs ⊢
  by_cases hl : 400 < (B l).size
  · have hl2 : (400 : Int) < (B l).size := by omega
    obtain ⟨r, f, h1, h2⟩ := both (l.take 400) e (by rw [List.length_take]; omega)
    have H1 := Lib.hid h1
    have H2 := Lib.hid h2
    have HE := Lib.hid (B_take l 400)
    clear h1 h2
    go_enter Tryd.func3, Tryd.ntmps3
    go_wp2_with fail
    rw [HE.out]
    refine (H1.out _).mono ?_
    rintro en w1 ⟨rfl, hb1⟩
    go_wp2_with fail
    refine (H2.out _).mono ?_
    rintro en w1 ⟨rfl, hb2⟩
    go_wp2
    go_ret
    exact ⟨rfl, hb1.trans (hb2.mono hb1.size)⟩
  · have hl2 : ¬ (400 : Int) < (B l).size := by omega
    obtain ⟨r, f, h1, h2⟩ := both l e (by rw [B_size] at hl; omega)
    have H1 := Lib.hid h1
    have H2 := Lib.hid h2
    clear h1 h2
    go_enter Tryd.func3, Tryd.ntmps3
    go_wp2_with fail
    refine (H1.out _).mono ?_
    rintro en w1 ⟨rfl, hb1⟩
    go_wp2_with fail
    refine (H2.out _).mono ?_
    rintro en w1 ⟨rfl, hb2⟩
    go_wp2
    go_ret
    exact ⟨rfl, hb1.trans (hb2.mono hb1.size)⟩
end Go.Proofs.YtlffgepnhhnadaaDoor.Fp
