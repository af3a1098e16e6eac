/- plumblaw14.FtoaRefuses, walked. -/
import Derived.Test.YtjdelpelnjhidaaGreatDoorFtoS
namespace Go.Proofs.YtjdelpelnjhidaaGreatDoor.Pl
open Go.RowKit
theorem or_full (x : Nat) (h : x < 2048) : x ||| 2047 = 2047 := by
  refine Nat.eq_of_testBit_eq fun i => ?_
  rw [Nat.testBit_or, show (2047 : Nat) = 2 ^ 11 - 1 from rfl, Nat.testBit_two_pow_sub_one]
  by_cases hi : i < 11
  · simp [hi]
  · have : x.testBit i = false := Nat.testBit_lt_two_pow (Nat.lt_of_lt_of_le h (Nat.pow_le_pow_right (by decide : 0 < 2) (by omega : 11 ≤ i)))
    simp [this]
theorem none_of (b : Nat) (hb : b < 18446744073709551616) : ∃ n : Nat, bits .or .u64 (b : Int) 9218868437227405312 = (n : Int) ∧ n < 18446744073709551616 ∧ 3 ≤ cls n := by
  have h1 : (BitVec.ofInt 64 (b : Int)).toNat = b := by
    rw [BitVec.ofInt_natCast, BitVec.toNat_ofNat]; exact Nat.mod_eq_of_lt hb
  have h2 : (BitVec.ofInt 64 (9218868437227405312 : Int)).toNat = 9218868437227405312 := by decide
  have h3 : bits .or .u64 (b : Int) 9218868437227405312 = IntKind.u64.wrap ((b ||| 9218868437227405312 : Nat) : Int) := by
    show IntKind.u64.wrap ((BitVec.ofInt 64 (b : Int) ||| BitVec.ofInt 64 (9218868437227405312 : Int)).toNat : Int) = _
    rw [BitVec.toNat_or, h1, h2]
  have hn : b ||| 9218868437227405312 < 2 ^ 64 := Nat.or_lt_two_pow (by omega) (by decide)
  have e1 : (b ||| 9218868437227405312) / 2 ^ 52 % 2 ^ 11 = 2047 := by
    rw [Nat.or_div_two_pow, Nat.or_mod_two_pow, show 9218868437227405312 / 2 ^ 52 % 2 ^ 11 = 2047 by decide]
    exact or_full _ (Nat.mod_lt _ (by decide))
  have p1 : (2 : Nat) ^ 52 = 4503599627370496 := by decide
  have p2 : (2 : Nat) ^ 11 = 2048 := by decide
  have p3 : (2 : Nat) ^ 64 = 18446744073709551616 := by decide
  rw [p1, p2] at e1
  rw [p3] at hn
  refine ⟨b ||| 9218868437227405312, ?_, hn, ?_⟩
  · rw [h3, IntKind.wrap_u64]; omega
  · generalize b ||| 9218868437227405312 = n at *
    unfold cls
    repeat' split
    all_goals omega
/-- what a mode that is none is told, and a pattern without a number -/
theorem hex_bad (b : Nat) (w : World) (hb : b < 18446744073709551616) (hc : 3 ≤ cls b) : Calls Tryz.prog 15 #[.int .u64 b] w fun e w' => e = .returned (.tuple #[.string ⟨#[]⟩, .int .i64 60]) ∧ w' = w := by
  have h := Lib.hid (text_class b 2 w hb (by decide) hc)
  clear hc
  go_enter Tryz.func15, Tryz.ntmps15
  go_wp2_with (first | (go_at_call 8; refine h.out.mono ?_; rintro e w1 ⟨rfl, hw1⟩; subst hw1) | fail)
  go_ret2
  exact ⟨rfl, rfl⟩
/-- Plain of 1, whatever the exponent -/
theorem plain_out (x : Int) (w : World) (h : decide (x < -1100) = true ∨ decide (1100 < x) = true) : Calls Tryz.prog 19 #[.string ⟨#[49]⟩, .int .i64 x] w fun e w' => (∃ l, e = .returned (.tuple #[.string (B l), .int .i64 130]) ∧ (B l).toList.isEmpty = true) ∧ Below w.heap.size w w' := by
  refine (plain_far x w (h.imp of_decide_eq_true of_decide_eq_true)).mono ?_
  rintro e w' ⟨rfl, rfl⟩
  exact ⟨⟨[], rfl, by rw [B_list]; rfl⟩, Below.refl _ _⟩
theorem plain_mid (x : Int) (w : World) (h1 : decide (x < -1100) = false) (h2 : decide (1100 < x) = false) : Calls Tryz.prog 19 #[.string ⟨#[49]⟩, .int .i64 x] w fun e w' => (∃ l, e = .returned (.tuple #[.string (B l), .int .i64 0]) ∧ (B l).toList.isEmpty = false) ∧ Below w.heap.size w w' := by
  have h3 := of_decide_eq_false h1
  have h4 := of_decide_eq_false h2
  refine (plain_one x w (by omega) (by omega)).mono ?_
  rintro e w' ⟨⟨l, rfl, hl⟩, hb⟩
  refine ⟨⟨l, rfl, ?_⟩, hb⟩
  rw [B_list]
  cases l with
  | nil => exact absurd rfl hl
  | cons c l => rfl
theorem ret_emp {p : List UInt8} (h : (B p).toList.isEmpty = true) : Ending.returned (Value.bool (B p).toList.isEmpty) = .returned (.bool true) := by rw [h]
theorem ret_full {p : List UInt8} (h : (B p).toList.isEmpty = false) : Ending.returned (Value.bool (!(B p).toList.isEmpty)) = .returned (.bool true) := by rw [h]; rfl
theorem below5 {a b c d e f : World} (h1 : Below a.heap.size a b) (h2 : Below b.heap.size b c) (h3 : Below c.heap.size c d) (h4 : Below d.heap.size d e) (h5 : Below e.heap.size e f) : Below a.heap.size a f := below2 h1 (below4 h2 h3 h4 h5)
theorem three_wx (w : World) (x y z : Nat) (hx : x < 18446744073709551616) (hy : y < 18446744073709551616) (hz : z < 18446744073709551616) : Wx (w.alloc (.cells (([x, y, z].map uv).toArray) 22 (0, 0))) (.slice (some ⟨w.heap.size, 0, none⟩) 3 3) [x, y, z] := by
  refine (Ar.new w 22 [x, y, z]).wx0 (fun u hu => ?_) rfl (by simp)
  simp only [List.mem_cons, List.not_mem_nil, or_false] at hu
  omega
set_option maxRecDepth 100000 in
set_option maxHeartbeats 8000000 in
theorem refuses_bad (b : Nat) (m x : Int) (w : World) (hb : b < 18446744073709551616) (hm : m < 1 ∨ 3 < m) (hS : Std w) : Calls Tryz.prog 6 #[.int .u64 b, .int .i64 m, .int .i64 x] w fun e w' => e = .returned (.bool true) ∧ Below w.heap.size w w' := by
  obtain ⟨n, hn, hn1, hn2⟩ := none_of b hb
  have ha := Lib.hid (alive_ok w hS)
  have htm := fun b w => Lib.hid (text_mode b m w (by omega))
  have hlm := fun v w => Lib.hid (line_mode v m w (by omega))
  have hhx := fun w => Lib.hid (hex_bad n w hn1 hn2)
  have hfi := fun w => Lib.hid (finite_any b w hb)
  have hp0 := fun w => Lib.hid (plain_none x w)
  have hp1 := fun w => Lib.hid (plain_blank x w)
  clear hn1 hn2
  go_enter Tryz.func6, Tryz.ntmps6
  have hmm : decide (1 ≤ m) = false ∨ (decide (1 ≤ m) = true ∧ decide (m ≤ 3) = false) := by
    rcases hm with h | h
    · exact .inl (decide_eq_false (by omega))
    · exact .inr ⟨decide_eq_true (by omega), decide_eq_false (by omega)⟩
  clear hm
  have hemp : ((⟨#[]⟩ : ByteArray) ++ ⟨#[]⟩ ++ ⟨#[]⟩).toList = [] := by rw [show ((⟨#[]⟩ : ByteArray) ++ ⟨#[]⟩ ++ ⟨#[]⟩) = B [] from rfl, B_list]
  have hxx : (decide (x < -1100) = true) ∨ (decide (x < -1100) = false ∧ decide (1100 < x) = true) ∨ (decide (x < -1100) = false ∧ decide (1100 < x) = false) := by
    by_cases h1 : x < -1100
    · exact .inl (decide_eq_true h1)
    · by_cases h2 : 1100 < x
      · exact .inr (.inl ⟨decide_eq_false h1, decide_eq_true h2⟩)
      · exact .inr (.inr ⟨decide_eq_false h1, decide_eq_false h2⟩)
  rcases hmm with hmm | ⟨hmm, hmm2⟩
  all_goals rcases hxx with hxx | ⟨hxx, hxx2⟩ | ⟨hxx, hxx2⟩
  all_goals first
    | (have hp2 := fun w => Lib.hid (plain_out x w (.inl hxx)))
    | (have hp2 := fun w => Lib.hid (plain_out x w (.inr hxx2)))
    | (have hp2 := fun w => Lib.hid (plain_mid x w hxx hxx2))
  all_goals
    go_wp2_with (first
      | (go_at_call 9; refine ha.out.mono ?_; rintro e w2 ⟨rfl, hbw⟩)
      | (go_at_call 8; refine (htm _ _).out.mono ?_; rintro e w3 ⟨rfl, hw3⟩; rw [hw3]; clear hw3)
      | (go_at_call 18; refine (hlm _ _).out.mono ?_; rintro e w3 ⟨rfl, hw3⟩; rw [hw3]; clear hw3)
      | (go_at_call 15; refine (hhx _).out.mono ?_; rintro e w3 ⟨rfl, hw3⟩; rw [hw3]; clear hw3)
      | (go_at_call 7; refine (hfi _).out.mono ?_; rintro e w3 ⟨rfl, hw3⟩; rw [hw3]; clear hw3)
      | (go_at_call_of 19 (Value.string ⟨#[]⟩); refine (hp0 _).out.mono ?_; rintro e w3 ⟨rfl, hw3⟩; rw [hw3]; clear hw3)
      | (go_at_call_of 19 (Value.string ⟨#[49, 32]⟩); refine (hp1 _).out.mono ?_; rintro e w3 ⟨rfl, hw3⟩; rw [hw3]; clear hw3)
      | (go_at_call_of 19 (Value.string ⟨#[49]⟩); refine (hp2 _).out.mono ?_; rintro e w4 ⟨⟨p, rfl, hp⟩, hbz⟩)
      | fail)
  all_goals
    go_ret
    refine ⟨?_, hbw.trans (((below_new w2 _).trans (hbz.mono (below_new w2 _).size)).mono hbw.size)⟩
    first
      | rfl
      | exact ret_emp hp
      | exact ret_full hp
theorem line_three (n m : Nat) (w : World) (hn1 : n < 18446744073709551616) (hn2 : 3 ≤ cls n) (hm : 1 ≤ m ∧ m < 4) (hS : Std w) : Calls Tryz.prog 18 #[.slice (some ⟨w.heap.size, 0, none⟩) 3 3, .int .i64 m] (w.alloc (.cells #[.int .u64 0, .int .u64 n, .int .u64 0] 22)) fun e w' => e = .returned (.tuple #[.string ⟨#[]⟩, .int .i64 60]) ∧ Below (w.alloc (.cells #[.int .u64 0, .int .u64 n, .int .u64 0] 22)).heap.size (w.alloc (.cells #[.int .u64 0, .int .u64 n, .int .u64 0] 22)) w' :=
  line_bad _ [0, n, 0] 1 n m _ (three_wx w 0 n 0 (by decide) hn1 (by decide)) (by simp) rfl hn1 hn2 (fun k y hk hy => by
    obtain rfl : k = 0 := by omega
    obtain rfl : y = 0 := (Option.some.inj hy).symm
    exact ⟨by decide, by unfold finP; decide⟩) hm (hS.below (below_new w _))
set_option maxRecDepth 100000 in
set_option maxHeartbeats 8000000 in
theorem refuses_ok (b m : Nat) (x : Int) (w : World) (hb : b < 18446744073709551616) (hm : 1 ≤ m ∧ m < 4) (hS : Std w) : Calls Tryz.prog 6 #[.int .u64 b, .int .i64 m, .int .i64 x] w fun e w' => e = .returned (.bool true) ∧ Below w.heap.size w w' := by
  obtain ⟨n, hn, hn1, hn2⟩ := none_of b hb
  have ha := Lib.hid (alive_ok w hS)
  have hci : (1 : Int) ≤ m ∧ (m : Int) < 4 := by omega
  have htc := fun w => Lib.hid (text_class n m w hn1 hci hn2)
  have hl1 := fun w (hS : Std w) => Lib.hid (line_three n m w hn1 hn2 hm hS)
  have hl2 := fun w (hS : Std w) => Lib.hid (line_any _ [] m w (Wd.nil _ w) (by decide) (fun b hb => by cases hb) hm hS)
  have hhx := fun w => Lib.hid (hex_bad n w hn1 hn2)
  have hfi := fun w => Lib.hid (finite_fin b w hb)
  have hT := fun b w hb hS => Lib.hid (text_fin b m w hb hm hS)
  have hp0 := fun w => Lib.hid (plain_none x w)
  have hp1 := fun w => Lib.hid (plain_blank x w)
  clear hn1 hn2
  have hS0 := Lib.hid hS
  clear hS
  go_enter Tryz.func6, Tryz.ntmps6
  have hm1 : decide ((1 : Int) ≤ m) = true := decide_eq_true (by omega)
  have hm2 : decide ((m : Int) ≤ 3) = true := decide_eq_true (by omega)
  have hMM := Lib.hid hm
  clear hm hci
  have hemp : ((⟨#[]⟩ : ByteArray) ++ ⟨#[]⟩ ++ ⟨#[]⟩).toList = [] := by rw [show ((⟨#[]⟩ : ByteArray) ++ ⟨#[]⟩ ++ ⟨#[]⟩) = B [] from rfl, B_list]
  have hxx : (decide (x < -1100) = true) ∨ (decide (x < -1100) = false ∧ decide (1100 < x) = true) ∨ (decide (x < -1100) = false ∧ decide (1100 < x) = false) := by
    by_cases h1 : x < -1100
    · exact .inl (decide_eq_true h1)
    · by_cases h2 : 1100 < x
      · exact .inr (.inl ⟨decide_eq_false h1, decide_eq_true h2⟩)
      · exact .inr (.inr ⟨decide_eq_false h1, decide_eq_false h2⟩)
  rcases hxx with hxx | ⟨hxx, hxx2⟩ | ⟨hxx, hxx2⟩
  all_goals first
    | (have hp2 := fun w => Lib.hid (plain_out x w (.inl hxx)))
    | (have hp2 := fun w => Lib.hid (plain_out x w (.inr hxx2)))
    | (have hp2 := fun w => Lib.hid (plain_mid x w hxx hxx2))
  all_goals
    go_wp2_with (first
      | (go_at_call 9; refine ha.out.mono ?_; rintro e w2 ⟨rfl, hbw⟩; have hSw := hS0.out.below hbw)
      | (go_at_call_of 8 (Value.int .u64 n); refine (htc _).out.mono ?_; rintro e w3 ⟨rfl, hw3⟩; rw [hw3]; clear hw3)
      | (go_at_call_of 18 (Value.slice none 0 0); refine (hl2 _ hSt).out.mono ?_; rintro e w6 ⟨rfl, hbn⟩)
      | (go_at_call 18; refine (hl1 _ hSw).out.mono ?_; rintro e w4 ⟨rfl, hbl⟩; have hSl := (hSw.below (below_new w2 _)).below hbl)
      | (go_at_call 15; refine (hhx _).out.mono ?_; rintro e w3 ⟨rfl, hw3⟩; rw [hw3]; clear hw3)
      | (go_at_call 7; refine (hfi _).out.mono ?_; rintro e w3 ⟨⟨y, rfl, hy⟩, hw3⟩; rw [hw3]; clear hw3)
      | (go_at_call 8; refine (hT _ _ hy hSl).out.mono ?_; rintro e w5 ⟨⟨rfl, _, hzl⟩, hbt⟩; have hSt := hSl.below hbt)
      | (go_at_call_of 19 (Value.string ⟨#[]⟩); refine (hp0 _).out.mono ?_; rintro e w3 ⟨rfl, hw3⟩; rw [hw3]; clear hw3)
      | (go_at_call_of 19 (Value.string ⟨#[49, 32]⟩); refine (hp1 _).out.mono ?_; rintro e w3 ⟨rfl, hw3⟩; rw [hw3]; clear hw3)
      | (go_at_call_of 19 (Value.string ⟨#[49]⟩); refine (hp2 _).out.mono ?_; rintro e w7 ⟨⟨p, rfl, hp⟩, hbz⟩)
      | fail)
  all_goals
    go_ret
    refine ⟨?_, below5 hbw (below_new w2 _) hbl hbt (below2 hbn hbz)⟩
    first
      | rfl
      | exact ret_emp hp
      | exact ret_full hp
theorem refuses_walk (b : Nat) (m x : Int) (w : World) (hb : b < 18446744073709551616) (hS : Std w) : Calls Tryz.prog 6 #[.int .u64 b, .int .i64 m, .int .i64 x] w fun e w' => e = .returned (.bool true) ∧ Below w.heap.size w w' := by
  by_cases hm : m < 1 ∨ 3 < m
  · exact refuses_bad b m x w hb hm hS
  · obtain ⟨n, rfl⟩ := Int.eq_ofNat_of_zero_le (by omega : 0 ≤ m)
    exact refuses_ok b n x w hb (by omega) hS
end Go.Proofs.YtjdelpelnjhidaaGreatDoor.Pl
