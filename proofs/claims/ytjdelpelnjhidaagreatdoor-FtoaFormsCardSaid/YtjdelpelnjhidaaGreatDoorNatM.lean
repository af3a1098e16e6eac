/- nat: products. -/
import Derived.Test.YtjdelpelnjhidaaGreatDoorNatC
namespace Go.Proofs.YtjdelpelnjhidaaGreatDoor.Pl
open Go.RowKit
theorem bl_mul_le {a b : Nat} : bl (a * b) ≤ bl a + bl b := by
  refine bl_le_iff.2 ?_
  rw [Nat.pow_add]
  exact Nat.mul_lt_mul'' (lt_bl a) (lt_bl b)
theorem ws_len_bits {n k : Nat} (h : bl n ≤ 64 * k) : (ws n).length ≤ k := ws_len_le.2 (by rw [pow64]; exact bl_le_iff.1 h)
theorem len_bits_pos {n : Nat} (h : n ≠ 0) : 64 * (ws n).length ≤ bl n + 63 := by
  obtain ⟨x, hx, h0, _⟩ := ws_top h
  have := bl_ws h hx
  have := bl_pos h0
  omega
set_option maxRecDepth 100000 in
set_option maxHeartbeats 4000000 in
/-- the loops of a product -/
theorem mul_any (u v : Value) (x y : List Nat) (w : World) (hx : Wx w u x) (hy : Wx w v y) (hlx : x.length ≤ 17592186044416) (hly : y.length ≤ 17592186044416) (hbits : bl (val x) + bl (val y) ≤ 262144) : Calls Tryz.prog 113 #[u, v] w fun e w' => (∃ z, e = .returned (.tuple #[z, .int .i64 0]) ∧ Wx w' z (ws (val x * val y))) ∧ Below w.heap.size w w' := by
  obtain ⟨n, hn⟩ : ∃ n, n = size x := ⟨_, rfl⟩
  obtain ⟨m, hm⟩ : ∃ m, m = size y := ⟨_, rfl⟩
  have HN := fun w hx => Lib.hid (size_any u x w hx)
  have HM := fun w hy => Lib.hid (size_any v y w hy)
  rw [← hn] at HN
  rw [← hm] at HM
  have hnl := size_le x
  have hml := size_le y
  rw [← hn] at hnl
  rw [← hm] at hml
  have hxw := hx.1
  have hyw := hy.1
  have ht1 := take_size hxw
  have ht2 := take_size hyw
  rw [← hn] at ht1
  rw [← hm] at ht2
  have hz1 := size_ws hxw
  have hz2 := size_ws hyw
  rw [← hn] at hz1
  rw [← hm] at hz2
  obtain ⟨A, c, rfl, hc, hcx⟩ := hx.view
  obtain ⟨A', c', rfl, hc', hcy⟩ := hy.view
  have hX := hx.cut n c hnl (by omega)
  have hY := hy.cut m c' hml (by omega)
  rw [ht1] at hX
  rw [ht2] at hY
  clear ht1 ht2 hcx hcy
  have HQ1 := fun k => Lib.hid (HN (w.drewN k) hx).out
  have HQ2 := fun k => Lib.hid (HM (w.drewN k) hy).out
  clear HN HM
  by_cases h0 : n = 0 ∨ m = 0
  · have hv0 : val x * val y = 0 := by
      rcases h0 with h0 | h0
      · rw [size_zero (hn.symm.trans h0), Nat.zero_mul]
      · rw [size_zero (hm.symm.trans h0), Nat.mul_zero]
    rw [hv0, ws_zero]
    clear hn hm hz1 hz2 hv0
    have hnl2 : (n : Int) ≤ c := by omega
    go_enter Tryz.func113, Tryz.ntmps113
    go_wp2_with fail
    go_quiet ((first | (go_at_call_of 117 (Value.slice A x.length c); exact Calls.quiet_of_same (HQ1 _).out) | (go_at_call_of 117 (Value.slice A' y.length c'); exact Calls.quiet_of_same (HQ2 _).out)))
    rcases h0 with h0 | h0
    · have h1 : ((n : Int) == 0) = true := by simp [h0]
      go_wp2_with fail
      go_ret2
      exact ⟨⟨_, rfl, Wd.nil _ _⟩, drewN_below _ _⟩
    · have h1 : ((m : Int) == 0) = true := by simp [h0]
      by_cases hn0 : n = 0
      · have h2 : ((n : Int) == 0) = true := by simp [hn0]
        go_wp2_with fail
        go_ret2
        exact ⟨⟨_, rfl, Wd.nil _ _⟩, drewN_below _ _⟩
      · have h2 : ((n : Int) == 0) = false := by simp [hn0]
        go_wp2_with fail
        go_ret2
        exact ⟨⟨_, rfl, Wd.nil _ _⟩, drewN_below _ _⟩
  · obtain ⟨X, hXX⟩ : ∃ X, X = ws (val x) := ⟨_, rfl⟩
    obtain ⟨Y, hYY⟩ : ∃ X, X = ws (val y) := ⟨_, rfl⟩
    rw [← hXX] at hX hz1
    rw [← hYY] at hY hz2
    have hvX : val X = val x := by rw [hXX, val_ws]
    have hvY : val Y = val y := by rw [hYY, val_ws]
    rw [← hvX, ← hvY] at hbits
    rw [← hvX, ← hvY]
    have hn0 : ¬ n = 0 := fun e => h0 (.inl e)
    have hm0 : ¬ m = 0 := fun e => h0 (.inr e)
    have hn1 : ¬ (n : Int) = 0 := by omega
    have hm1 : ¬ (m : Int) = 0 := by omega
    clear h0
    have hn4 : n ≤ 4096 := by
      have h1 := len_bits_pos (n := val x) (fun e => hn0 (by rw [hz1, hXX, e, ws_zero]; rfl))
      rw [← hXX, ← hz1, ← hvX] at h1
      omega
    have hm4 : m ≤ 4096 := by
      have h1 := len_bits_pos (n := val y) (fun e => hm0 (by rw [hz2, hYY, e, ws_zero]; rfl))
      rw [← hYY, ← hz2, ← hvY] at h1
      omega
    have hprod : (ws (val X * val Y)).length ≤ 4096 := ws_len_bits (Nat.le_trans bl_mul_le (by omega))
    clear hXX hYY hn hm hvX hvY
    have hn2 : ((n : Int) == 0) = false := by simpa using hn0
    have hm2 : ((m : Int) == 0) = false := by simpa using hm0
    obtain ⟨b1, hb1⟩ : ∃ b, b = bl (val X) := ⟨_, rfl⟩
    obtain ⟨b2, hb2⟩ : ∃ b, b = bl (val Y) := ⟨_, rfl⟩
    have HB1 := fun w hx => Lib.hid (bits_any (.slice A n c) X w hx (by omega))
    have HB2 := fun w hx => Lib.hid (bits_any (.slice A' m c') Y w hx (by omega))
    rw [← hb1] at HB1
    rw [← hb2] at HB2
    rw [← hb1, ← hb2] at hbits
    clear hb1 hb2
    obtain ⟨p1, o1, rfl, hp1, hcX⟩ := hX.at (by intro e; rw [e] at hz1; exact hn0 hz1)
    obtain ⟨p2, o2, rfl, hp2, hcY⟩ := hY.at (by intro e; rw [e] at hz2; exact hm0 hz2)
    have hXw := hX.1
    have hYw := hY.1
    have HX1 := Lib.hid hz1
    have HY1 := Lib.hid hz2
    clear hz1 hz2
    go_enter Tryz.func113, Tryz.ntmps113
    go_wp2_with fail
    go_quiet ((first | (go_at_call_of 117 (Value.slice (some ⟨p1, o1, none⟩) x.length c); exact Calls.quiet_of_same (HQ1 _).out) | (go_at_call_of 117 (Value.slice (some ⟨p2, o2, none⟩) y.length c'); exact Calls.quiet_of_same (HQ2 _).out)))
    obtain ⟨w2, hw2⟩ : ∃ w2, w2 = w.drewN nq := ⟨_, rfl⟩
    have hbw : Below w.heap.size w w2 := by rw [hw2]; exact drewN_below _ _
    rw [← hw2]
    clear hw2 HQ1 HQ2
    obtain ⟨w3, hmk, hg3, hb3⟩ := make_words (n + m) w2 (by omega)
    rw [Int.natCast_add] at hmk
    have HG3 := Lib.hid hg3
    clear hg3
    have hX2 := hX.below hbw
    have hY2 := hY.below hbw
    go_wp2_with (first | (go_at_call_of 118 (Value.slice (some ⟨p1, o1, none⟩) n c); refine (HB1 _ (by assumption)).out.mono ?_; rintro e w' ⟨rfl, rfl⟩) | (go_at_call_of 118 (Value.slice (some ⟨p2, o2, none⟩) m c'); refine (HB2 _ (by assumption)).out.mono ?_; rintro e w' ⟨rfl, rfl⟩) | fail)
    go_loopw [46] (fun i wr => ∃ (k : Nat) (out : List Nat), i = .int .i64 k ∧ k ≤ n ∧ out.length = n + m ∧ W64 out ∧ Ar wr w'.heap.size 22 out ∧ Hid (val out = val (X.take k) * val Y) ∧ (∀ j, k + m ≤ j → j < n + m → out[j]? = some 0) ∧ Below w'.heap.size w' wr) (fun i _ => n - (intOf i).toNat)
    case atStart => exact ⟨0, _, rfl, by omega, by simp, W64.replicate _, HG3.out, Lib.hid (by rw [val_replicate]; simp [val]), fun j _ h2 => by rw [List.getElem?_replicate, if_pos h2], hb3⟩
    case round =>
      obtain ⟨k, out, rfl, hk, hol, how, ho, hv, hz, hbel⟩ := hrel
      by_cases hkn : k < n
      · obtain ⟨a, hak⟩ : ∃ a, X[k]? = some a := ⟨_, List.getElem?_eq_getElem (by have := HX1.out; omega)⟩
        have ha := hXw.get hak
        have hp1' : p1 < w'.heap.size := Nat.lt_of_lt_of_le hp1 hbw.size
        have hp2' : p2 < w'.heap.size := Nat.lt_of_lt_of_le hp2 hbw.size
        have hca : wr.cell? ⟨p1, o1 + k, none⟩ = some (.int .u64 a) := (hbel.cell (by exact hp1')).trans ((hbw.cell (by exact hp1)).trans (hcX k a hak))
        go_wp2_with fail
        go_loopw [53, 9] (fun i cr wr => ∃ (j cc : Nat) (out : List Nat), i = .int .i64 j ∧ cr = .int .u64 cc ∧ j ≤ m ∧ cc < 18446744073709551616 ∧ out.length = n + m ∧ W64 out ∧ Ar wr w'.heap.size 22 out ∧ Hid (val out + 18446744073709551616 ^ (k + j) * cc = val (X.take k) * val Y + a * 18446744073709551616 ^ k * val (Y.take j)) ∧ (∀ j, k + m ≤ j → j < n + m → out[j]? = some 0) ∧ Below w'.heap.size w' wr) (fun i _ _ => m - (intOf i).toNat)
        case atStart => exact ⟨0, 0, out, rfl, rfl, by omega, by omega, hol, how, ho, Lib.hid (by rw [hv.out]; simp [val]), hz, hbel⟩
        case round =>
          clear hol how ho hv hz hbel hca
          obtain ⟨j, cc, out, rfl, rfl, hj, hcc, hol, how, ho, hv, hz, hbel⟩ := hrel
          by_cases hjm : j < m
          · obtain ⟨b, hbj⟩ : ∃ a, Y[j]? = some a := ⟨_, List.getElem?_eq_getElem (by have := HY1.out; omega)⟩
            have hb := hYw.get hbj
            obtain ⟨t, ht⟩ : ∃ a, out[k + j]? = some a := ⟨_, List.getElem?_eq_getElem (by omega)⟩
            have htw := how.get ht
            have hcb : wr.cell? ⟨p2, o2 + j, none⟩ = some (.int .u64 b) := (hbel.cell (by exact hp2')).trans ((hbw.cell (by exact hp2)).trans (hcY j b hbj))
            go_wp2_with (first
              | (go_at_call 131; refine (mulw_any a b _ ha hb).mono ?_; rintro e W ⟨⟨hi, lo, rfl, hml1, hhi, hlo⟩, hbW⟩; have hcW := (ho.below hbW ho.lt).cell ht; have hfW := (ho.below hbW ho.lt).free (k + j))
              | (go_at_call 132; refine (addw_any s1 cc 0 _ hs1 hcc (by decide)).mono ?_; rintro e W2 ⟨s2, k2, rfl, had2, hs2, hk2, rfl⟩)
              | (go_at_call 132; refine (addw_any lo t 0 _ hlo htw (by decide)).mono ?_; rintro e W2 ⟨s1, k1, rfl, had1, hs1, hk1, rfl⟩)
              | fail)
            have hsum := mul_word hml1 (show s1 + 18446744073709551616 * k1 = lo + t from had1) (show s2 + 18446744073709551616 * k2 = s1 + cc from had2)
            have hq := mul_carry ha hb htw hcc hsum
            have e1 : IntKind.u64.wrap (IntKind.u64.wrap ((hi : Int) + (k1 : Int)) + (k2 : Int)) = ((hi + k1 + k2 : Nat) : Int) := by simp only [IntKind.wrap_u64]; omega
            have hoW := ho.below hbW ho.lt
            go_roundw
            case rel =>
              refine ⟨j + 1, hi + k1 + k2, out.set (k + j) s2, by go_num, by rw [e1], by omega, hq, by simpa using hol, how.set _ hs2, hoW.set _ _, Lib.hid ?_, ?_, ?_⟩
              · rw [val_take_succ Y j b hbj]
                exact mul_step ht hv.out hsum
              · intro i h1 h2
                rw [List.getElem?_set_ne (by omega)]; exact hz i h1 h2
              · exact (hbel.trans (hbW.mono hbel.size)).setCell (Nat.le_refl _) _
            case measure => simp [intOf]; omega
          · have hj2 : j = m := by omega
            subst hj2
            have hzn := hz (k + j) (by omega) (by omega)
            have hco := ho.cell hzn
            have hfo := ho.free (k + j)
            go_wp2_with fail
            have hvs := val_set cc hzn
            have hvo := hv.out
            rw [show Y.take j = Y by rw [HY1.out, List.take_length]] at hvo
            go_roundw
            case rel =>
              refine ⟨k + 1, out.set (k + j) cc, by go_num, by omega, by simpa using hol, how.set _ hcc, ho.set _ _, Lib.hid ?_, ?_, ?_⟩
              · rw [val_take_succ X k a hak, Nat.add_mul, Nat.mul_comm (18446744073709551616 ^ k) a]
                omega
              · intro i h1 h2
                rw [List.getElem?_set_ne (by omega)]; exact hz i (by omega) h2
              · exact hbel.setCell (Nat.le_refl _) _
            case measure => simp [intOf]; omega
      · have hk2 : k = n := by omega
        subst hk2
        have HBD := Lib.hid (bound_any (.slice (some ⟨w'.heap.size, 0, none⟩) (k + m) (k + m)) out wr (ho.wx0 how hol.symm (by omega)) (by rw [hv.out, HX1.out, List.take_length]; exact hprod))
        go_wp2_with (first | (refine HBD.out.mono ?_; rintro e w4 ⟨⟨u, rfl, hu⟩, rfl⟩) | fail)
        go_ret2
        refine ⟨⟨u, rfl, ?_⟩, hbw.trans (hbel.mono hbw.size)⟩
        rw [hv.out, HX1.out, List.take_length] at hu
        exact hu
end Go.Proofs.YtjdelpelnjhidaaGreatDoor.Pl
