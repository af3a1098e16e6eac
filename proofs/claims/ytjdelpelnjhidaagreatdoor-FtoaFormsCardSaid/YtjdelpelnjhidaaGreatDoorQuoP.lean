/- quot: quotient and rest; powers. -/
import Derived.Test.YtjdelpelnjhidaaGreatDoorQuoN
namespace Go.Proofs.YtjdelpelnjhidaaGreatDoor.Pl
open Go.RowKit
set_option maxRecDepth 100000 in
set_option maxHeartbeats 8000000 in
theorem divmod_any (u v : Value) (x y : List Nat) (w : World) (hx : Wx w u x) (hy : Wx w v y) (hlx : x.length ≤ 100000) (hly : y.length ≤ 100000) (hy0 : 0 < val y) : Calls Tryz.prog 98 #[u, v] w fun e w' => (∃ z1 z2, e = .returned (.tuple #[z1, z2, .int .i64 0]) ∧ Wx w' z1 (ws (val x / val y)) ∧ Wx w' z2 (ws (val x % val y))) ∧ Below w.heap.size w w' := by
  have hN1 := Lib.hid (norm_any u x w hx (by omega))
  have hN2 := fun w hy => Lib.hid (norm_any v y w hy (by omega))
  obtain ⟨a, ha⟩ : ∃ a, a = val x := ⟨_, rfl⟩
  obtain ⟨b, hb⟩ : ∃ b, b = val y := ⟨_, rfl⟩
  have hla : (ws a).length ≤ 100000 := by rw [ha, ← size_ws hx.1]; exact Nat.le_trans (size_le x) hlx
  have hlb : (ws b).length ≤ 100000 := by rw [hb, ← size_ws hy.1]; exact Nat.le_trans (size_le y) hly
  rw [← ha] at hN1
  rw [← hb] at hN2 hy0
  rw [← ha, ← hb]
  clear ha hb hlx hly
  have hbl : (ws b).length ≠ 0 := fun e => by have := ws_len_zero.1 e; omega
  by_cases hab : a < b
  · have hd0 : a / b = 0 := Nat.div_eq_of_lt hab
    have hm0 : a % b = a := Nat.mod_eq_of_lt hab
    rw [hd0, hm0, ws_zero]
    have hc := cmpN_lt hab
    have HC := Lib.hid hc
    clear hd0 hm0 hc
    go_enter Tryz.func98, Tryz.ntmps98
    go_wp2_with (first
      | (go_at_call_of 114 u; refine hN1.out.mono ?_; rintro e w1 ⟨⟨n, hn, rfl⟩, hg1, hb1⟩; have hx1 : Wx w1 (.slice (some ⟨w.heap.size, 0, none⟩) n n) (ws a) := (wx_val hg1.out hn (by omega)); have hy1 := hy.below hb1; have HN := Lib.hid hn; clear hn)
      | (go_at_call 114; refine (hN2 _ hy1).out.mono ?_; rintro e w2 ⟨⟨m, hm, rfl⟩, hg2, hb2⟩; have hy2 : Wx w2 (.slice (some ⟨w1.heap.size, 0, none⟩) m m) (ws b) := (wx_val hg2.out hm (by omega)); have hx2 := hx1.below hb2; have hm0 : ((m : Int) == 0) = false := (by simp; omega); have HM := Lib.hid hm; clear hm)
      | (go_at_call 101; refine (cmp_any _ _ (ws a) (ws b) _ hx2 hy2).mono ?_; rintro e w3 ⟨he, k, hk⟩; rw [val_ws, val_ws, HC.out] at he; subst he; have hb3 : Below w2.heap.size w2 w3 := (by rw [hk]; exact drewN_below _ _); clear hk)
      | fail)
    go_ret3
    exact ⟨⟨_, _, rfl, Wd.nil _ _, hx2.below hb3⟩, hb1.trans ((hb2.mono hb1.size).trans (hb3.mono (Nat.le_trans hb1.size hb2.size)))⟩
  · have hc : ¬ cmpN a b < 0 := by
      unfold cmpN
      rw [if_neg hab]
      split <;> decide
    obtain ⟨z, hz⟩ : ∃ z, z = cmpN a b := ⟨_, rfl⟩
    rw [← hz] at hc
    have HC := Lib.hid hz
    clear hz
    have hle : (ws b).length ≤ (ws a).length := ws_len_mono (by omega)
    by_cases h1 : (ws b).length = 1
    · have hb1w : b < 18446744073709551616 := by
        have := ws_len_le.1 (Nat.le_of_eq h1)
        simpa using this
      have hwb : ws b = [b] := by rw [ws, if_neg (by omega), show b / 18446744073709551616 = 0 by omega, ws_zero, Nat.mod_eq_of_lt hb1w]
      rw [h1] at hN2
      have HWB := Lib.hid hwb
      clear hwb
      have hrw : a % b < 18446744073709551616 := Nat.lt_trans (Nat.mod_lt _ hy0) hb1w
      go_enter Tryz.func98, Tryz.ntmps98
      go_wp2_with (first
        | (go_at_call_of 114 u; refine hN1.out.mono ?_; rintro e w1 ⟨⟨n, hn, rfl⟩, hg1, hb1⟩; have hx1 : Wx w1 (.slice (some ⟨w.heap.size, 0, none⟩) n n) (ws a) := (wx_val hg1.out hn (by omega)); have hy1 := hy.below hb1; have HN := Lib.hid hn; clear hn)
        | (go_at_call 114; refine (hN2 _ hy1).out.mono ?_; rintro e w2 ⟨⟨m, rfl, rfl⟩, hg2, hb2⟩; have hy2 : Wx w2 (.slice (some ⟨w1.heap.size, 0, none⟩) 1 1) (ws b) := (wx_val hg2.out h1.symm (by omega)); have hx2 := hx1.below hb2)
        | (go_at_call 101; refine (cmp_any _ _ (ws a) (ws b) _ hx2 hy2).mono ?_; rintro e w3 ⟨he, k, hk⟩; rw [val_ws, val_ws, ← HC.out] at he; subst he; have hb3 : Below w2.heap.size w2 w3 := (by rw [hk]; exact drewN_below _ _); clear hk;
            have hx3 := hx2.below hb3; have hcb : w3.cell? ⟨w1.heap.size, 0, none⟩ = some (.int .u64 b) := ((hg2.out.below hb3 hg2.out.lt).cell (by rw [HWB.out]; rfl)))
        | (go_at_call 115; refine (small_any _ (ws a) b _ hx3 (by omega) hb1w hy0).mono ?_; rintro e w4 ⟨⟨z1, he, hz1⟩, hb4⟩; rw [val_ws] at he hz1; subst he)
        | (go_at_call 110; refine (from_any (a % b) _ hrw).mono ?_; rintro e w5 ⟨⟨z2, rfl, hz2⟩, hb5⟩)
        | fail)
      go_ret3
      exact ⟨⟨_, _, rfl, hz1.below hb5, hz2⟩, hb1.trans ((hb2.mono hb1.size).trans ((hb3.mono (Nat.le_trans hb1.size hb2.size)).trans ((hb4.mono (Nat.le_trans hb1.size (Nat.le_trans hb2.size hb3.size))).trans (hb5.mono (Nat.le_trans hb1.size (Nat.le_trans hb2.size (Nat.le_trans hb3.size hb4.size)))))))⟩
    · obtain ⟨top, ht, ht0, _⟩ := ws_top (n := b) (by omega)
      go_enter Tryz.func98, Tryz.ntmps98
      go_wp2_with (first
        | (go_at_call_of 114 u; refine hN1.out.mono ?_; rintro e w1 ⟨⟨n, hn, rfl⟩, hg1, hb1⟩; have hx1 : Wx w1 (.slice (some ⟨w.heap.size, 0, none⟩) n n) (ws a) := (wx_val hg1.out hn (by omega)); have hy1 := hy.below hb1; have HN := Lib.hid hn; clear hn)
        | (go_at_call 114; refine (hN2 _ hy1).out.mono ?_; rintro e w2 ⟨⟨m, hm, rfl⟩, hg2, hb2⟩; have hy2 : Wx w2 (.slice (some ⟨w1.heap.size, 0, none⟩) m m) (ws b) := (wx_val hg2.out hm (by omega)); have hx2 := hx1.below hb2; have hm0 : ((m : Int) == 0) = false := (by simp; omega); have hm1 : ((m : Int) == 1) = false := (by simp; omega); have HM := Lib.hid hm; clear hm)
        | (go_at_call 101; refine (cmp_any _ _ (ws a) (ws b) _ hx2 hy2).mono ?_; rintro e w3 ⟨he, k, hk⟩; rw [val_ws, val_ws, ← HC.out] at he; subst he; have hb3 : Below w2.heap.size w2 w3 := (by rw [hk]; exact drewN_below _ _); clear hk;
            have hx3 := hx2.below hb3; have hy3 := hy2.below hb3)
        | (go_at_call 116; refine (long_any _ _ (ws a) (ws b) (ws b).length (64 - bl top) (ws a).length _ hx3 hy3 rfl (by omega) rfl hle (by omega) top ht ht0 rfl _ rfl).mono ?_; rintro e w4 ⟨⟨z1, z2, rfl, hz1, hz2⟩, hb4⟩; rw [val_ws, val_ws] at hz1 hz2)
        | fail)
      go_ret3
      exact ⟨⟨_, _, rfl, hz1, hz2⟩, hb1.trans ((hb2.mono hb1.size).trans ((hb3.mono (Nat.le_trans hb1.size hb2.size)).trans (hb4.mono (Nat.le_trans hb1.size (Nat.le_trans hb2.size hb3.size)))))⟩
theorem wraps_i64 (n : Int) (h0 : 0 ≤ n) (h1 : n < 2 ^ 63) : IntKind.i64.wrap n = n := IntWalk.i64_in _ (by omega)
theorem bl_pow_le (x k : Nat) : bl (x ^ k) ≤ k * bl x + 1 := by
  refine bl_le_iff.2 ?_
  have h1 : x ^ k ≤ (2 ^ bl x) ^ k := Nat.pow_le_pow_left (Nat.le_of_lt (lt_bl x)) k
  rw [← Nat.pow_mul, Nat.mul_comm] at h1
  rw [Nat.pow_succ]
  have := Nat.two_pow_pos (k * bl x)
  omega
theorem bl_pow (x k : Nat) (hk : 1 ≤ k) : bl (x ^ k) ≤ k * bl x := by
  refine bl_le_iff.2 ?_
  rw [Nat.mul_comm, Nat.pow_mul]
  exact Nat.pow_lt_pow_left (lt_bl x) (by omega)
theorem and_one_i64 (a : Nat) (ha : a < 9223372036854775808) : bits .and .i64 (a : Int) 1 = ((a % 2 : Nat) : Int) := by
  have := bits_mask .i64 63 (by decide) wraps_i64 1 (by decide) (a : Int) (by omega) (by omega)
  exact this.trans (by omega)
set_option maxRecDepth 100000 in
set_option maxHeartbeats 8000000 in
theorem pow_any (u : Value) (x : List Nat) (n : Nat) (w : World) (hx : Wx w u x) (hlx : x.length ≤ 100000) (hn : n * bl (val x) + bl (val x) ≤ 262143) (hn2 : n < 1000000) : Calls Tryz.prog 144 #[u, .int .i64 n] w fun e w' => (∃ z, e = .returned (.tuple #[z, .int .i64 0]) ∧ Wx w' z (ws (val x ^ n))) ∧ Below w.heap.size w w' := by
  have hN1 := Lib.hid (norm_wx u x w hx (by omega))
  obtain ⟨a, ha⟩ : ∃ a, a = val x := ⟨_, rfl⟩
  have hla : (ws a).length ≤ 100000 := by rw [ha, ← size_ws hx.1]; exact Nat.le_trans (size_le x) hlx
  rw [← ha] at hN1 hn
  rw [← ha]
  clear ha hlx
  have HBT := fun z w hz => Lib.hid (bits_any z (ws a) w hz (by omega))
  simp only [val_ws] at HBT
  obtain ⟨b, hb⟩ : ∃ b, b = bl a := ⟨_, rfl⟩
  rw [← hb] at HBT
  have HB := Lib.hid hb
  rw [← hb] at hn
  clear hb
  have HF1 := fun w => Lib.hid (from_any 1 w (by decide))
  by_cases h0 : n = 0
  · subst h0
    rw [Nat.pow_zero]
    go_enter Tryz.func144, Tryz.ntmps144
    go_wp2_with (first
      | (go_at_call 114; refine hN1.out.mono ?_; rintro e w1 ⟨⟨v, rfl, hx1⟩, hb1⟩)
      | (go_at_call 118; refine (HBT _ _ hx1).out.mono ?_; rintro e w2 ⟨rfl, hw2⟩; subst hw2)
      | (go_at_call 110; refine (HF1 _).out.mono ?_; rintro e w3 ⟨⟨z, rfl, hz⟩, hb3⟩)
      | fail)
    go_ret2
    exact ⟨⟨_, rfl, hz⟩, hb1.trans (hb3.mono hb1.size)⟩
  · have hni : ¬ (n : Int) < 0 := by omega
    have hn0 : ((n : Int) == 0) = false := by simp; omega
    by_cases h2 : b < 2
    · have hpow : a ^ n = a := by
        have h3 : a < 2 := by
          have := lt_bl a
          rw [← HB.out] at this
          have h4 : 2 ^ b ≤ 2 ^ 1 := Nat.pow_le_pow_right (by decide) (by omega)
          omega
        rcases (by omega : a = 0 ∨ a = 1) with rfl | rfl
        · exact Nat.zero_pow (by omega)
        · exact Nat.one_pow n
      rw [hpow]
      have h2i : (b : Int) < 2 := by omega
      clear hpow
      go_enter Tryz.func144, Tryz.ntmps144
      go_wp2_with (first
        | (go_at_call 114; refine hN1.out.mono ?_; rintro e w1 ⟨⟨v, rfl, hx1⟩, hb1⟩)
        | (go_at_call 118; refine (HBT _ _ hx1).out.mono ?_; rintro e w2 ⟨rfl, hw2⟩; subst hw2)
        | fail)
      go_ret2
      exact ⟨⟨_, rfl, hx1⟩, hb1⟩
    · have h2i : ¬ (b : Int) < 2 := by omega
      have hdv : n ≤ 262144 / (b - 1) := by
        refine (Nat.le_div_iff_mul_le (by omega)).2 ?_
        have : n * (b - 1) ≤ n * b := Nat.mul_le_mul_left _ (by omega)
        omega
      have hdz : ¬ (b : Int) - 1 = 0 := by omega
      have hdz2 : ((b : Int) - 1 == 0) = false := by simp; omega
      have hw1 : (262144 : Int) / ((b : Int) - 1) = ((262144 / (b - 1) : Nat) : Int) := by
        rw [Int.natCast_ediv, Int.natCast_sub (by omega)]; rfl
      obtain ⟨D, hD⟩ : ∃ D, D = 262144 / (b - 1) := ⟨_, rfl⟩
      rw [← hD] at hw1 hdv
      have hnD : ¬ (D : Int) < (n : Int) := by omega
      have HLN := fun w => Lib.hid (len_any n w (by omega))
      obtain ⟨m, hm⟩ : ∃ m, m = bl n := ⟨_, rfl⟩
      rw [← hm] at HLN
      have hml : m ≤ 64 := by rw [hm]; exact bl_le_iff.2 (by omega)
      have HM := Lib.hid hm
      clear hD hm
      go_enter Tryz.func144, Tryz.ntmps144
      go_wp2_with (first
        | (go_at_call 114; refine hN1.out.mono ?_; rintro e w1 ⟨⟨v, rfl, hx1⟩, hb1⟩)
        | (go_at_call 118; refine (HBT _ _ hx1).out.mono ?_; rintro e w2 ⟨rfl, hw2⟩; subst hw2)
        | (go_at_call 110; refine (HF1 _).out.mono ?_; rintro e w3 ⟨⟨z, rfl, hz⟩, hb3⟩; have hx3 := hx1.below hb3)
        | (go_at_call 96; refine (HLN _).out.mono ?_; rintro e w4 ⟨rfl, hw4⟩; subst hw4)
        | fail)
      go_loopw [8, 7] (fun i r wr => ∃ k : Nat, i = .int .i64 ((k : Int) - 1) ∧ k ≤ m ∧ Wx wr r (ws (a ^ (n / 2 ^ k))) ∧ Below w2.heap.size w2 wr) (fun i _ _ => (intOf i + 1).toNat)
      case atStart =>
        refine ⟨m, rfl, Nat.le_refl _, ?_, hb3⟩
        rw [HM.out, Nat.div_eq_of_lt (lt_bl n), Nat.pow_zero]
        exact hz
      case round =>
        obtain ⟨k, rfl, hk, hr, hbel⟩ := hrel
        cases k with
        | zero =>
          rw [Nat.pow_zero, Nat.div_one] at hr
          go_wp2_with fail
          go_ret2
          exact ⟨⟨_, rfl, hr⟩, hb1.trans (hbel.mono hb1.size)⟩
        | succ j =>
          obtain ⟨q, hq⟩ : ∃ q, q = n / 2 ^ (j + 1) := ⟨_, rfl⟩
          obtain ⟨d, hd⟩ : ∃ d, d = n / 2 ^ j := ⟨_, rfl⟩
          have hdq : d / 2 = q := by rw [hd, hq, Nat.pow_succ, Nat.div_div_eq_div_mul]
          have hdn : d ≤ n := by rw [hd]; exact Nat.div_le_self _ _
          rw [← hq] at hr
          have hba : bl a = b := HB.out.symm
          have hqb : bl (a ^ q) + bl (a ^ q) ≤ 262144 := by
            by_cases hq0 : q = 0
            · rw [hq0, Nat.pow_zero]; decide
            · have h1 := bl_pow a q (by omega)
              rw [hba] at h1
              have h3 := Nat.mul_le_mul_right b (show 2 * q ≤ n by omega)
              rw [Nat.mul_assoc] at h3
              omega
          have hsq : a ^ q * a ^ q = a ^ (2 * q) := by rw [← Nat.pow_add]; congr 1; omega
          have hlen : (ws (a ^ q)).length ≤ 17592186044416 := by
            have := ws_len_bits (n := a ^ q) (k := 4096) (by omega)
            omega
          have hM1 := Lib.hid (mul_any _ _ (ws (a ^ q)) (ws (a ^ q)) wr hr hr hlen hlen (by rw [val_ws]; exact hqb))
          rw [val_ws, hsq] at hM1
          have hlen2 : (ws (a ^ (2 * q))).length ≤ 17592186044416 := by
            have h1 := bl_mul_le (a := a ^ q) (b := a ^ q)
            rw [hsq] at h1
            have := ws_len_bits (n := a ^ (2 * q)) (k := 4096) (by omega)
            omega
          have hxr := hx1.below hbel
          have hjm : j < 64 := by omega
          have hsh : (n : Int) / 2 ^ j = (d : Int) := by rw [hd, Int.natCast_ediv, Int.natCast_pow]; rfl
          have hj0 : (0 : Int) ≤ (j : Int) := by omega
          have hj64 : (j : Int) ≤ 64 := by omega
          have hand := and_one_i64 d (by omega)
          rcases Nat.mod_two_eq_zero_or_one d with hbit | hbit
          · rw [hbit] at hand
            have hd2 : d = 2 * q := by omega
            have HD := Lib.hid (show a ^ (n / 2 ^ j) = a ^ (2 * q) by rw [← hd, hd2])
            clear hq hd hdq hd2
            go_wp2_with (first
              | (go_at_call 113; refine hM1.out.mono ?_; rintro e W ⟨⟨z1, rfl, hz1⟩, hbW⟩)
              | fail)
            go_roundw
            case rel => exact ⟨j, by simp, by omega, by rw [HD.out]; exact hz1, hbel.trans (hbW.mono hbel.size)⟩
            case measure => simp [intOf]
          · rw [hbit] at hand
            have hd2 : d = 2 * q + 1 := by omega
            have HD := Lib.hid (show a ^ (n / 2 ^ j) = a ^ (2 * q) * a by rw [← hd, hd2, Nat.pow_succ])
            have hb2 : bl (a ^ (2 * q)) + bl a ≤ 262144 := by
              by_cases hq0 : q = 0
              · rw [hq0, Nat.mul_zero, Nat.pow_zero, hba]
                have : bl 1 = 1 := by decide
                rw [this]
                omega
              · have h1 := bl_pow a (2 * q) (by omega)
                rw [hba] at h1 ⊢
                have h3 := Nat.mul_le_mul_right b (show 2 * q + 1 ≤ n by omega)
                rw [Nat.add_mul, Nat.one_mul] at h3
                omega
            have hM2 := fun z W hz hx => Lib.hid (mul_any z v (ws (a ^ (2 * q))) (ws a) W hz hx hlen2 (by omega) (by rw [val_ws, val_ws]; exact hb2))
            simp only [val_ws] at hM2
            clear hq hd hdq hd2 hb2
            go_wp2_with (first
              | (go_at_call 113; refine (hM2 z1 _ hz1 (hxr.below hbW)).out.mono ?_; rintro e W2 ⟨⟨z2, rfl, hz2⟩, hbW2⟩)
              | (go_at_call 113; refine hM1.out.mono ?_; rintro e W ⟨⟨z1, rfl, hz1⟩, hbW⟩)
              | fail)
            go_roundw
            case rel => exact ⟨j, by simp, by omega, by rw [HD.out]; exact hz2, hbel.trans ((hbW.mono hbel.size).trans (hbW2.mono (Nat.le_trans hbel.size hbW.size)))⟩
            case measure => simp [intOf]
end Go.Proofs.YtjdelpelnjhidaaGreatDoor.Pl
