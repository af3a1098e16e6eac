/- nat: two numbers compared. -/
import Derived.Test.YtjdelpelnjhidaaGreatDoorNatA
import Derived.BigQuiet
namespace Go.Proofs.YtjdelpelnjhidaaGreatDoor.Pl
open Go.RowKit
theorem quiet_eq {P : Program} {f : FuncId} {args : Array Value} {w : World} {n : Nat} {v : Value}
    (h : Calls P f args (w.drewN n) fun e w' => e = .returned v ∧ w.drewN n = w') : Calls P f args (w.drewN n) fun e w'' => e = .returned v ∧ ∃ m, w'' = w.drewN m :=
  h.mono fun _ _ ⟨he, hm⟩ => ⟨he, n, hm.symm⟩
theorem size_lt_val {x y : List Nat} (hx : W64 x) (hy : W64 y) (h : size x < size y) : val x < val y := by
  rw [size_ws hx, size_ws hy] at h
  have h0 : val y ≠ 0 := by intro e; rw [e, ws_zero] at h; simp at h
  obtain ⟨t, ht, ht0, hv⟩ := ws_top h0
  have h1 : val x < 18446744073709551616 ^ (ws (val x)).length := ws_len_le.1 (Nat.le_refl _)
  have h2 : 18446744073709551616 ^ (ws (val x)).length ≤ 18446744073709551616 ^ ((ws (val y)).length - 1) := Nat.pow_le_pow_right (by decide) (by omega)
  have h3 : 18446744073709551616 ^ ((ws (val y)).length - 1) * 1 ≤ 18446744073709551616 ^ ((ws (val y)).length - 1) * t := Nat.mul_le_mul_left _ (by omega)
  omega
theorem cmpN_lt {a b : Nat} (h : a < b) : cmpN a b = -1 := by unfold cmpN; rw [if_pos h]
theorem cmpN_gt {a b : Nat} (h : b < a) : cmpN a b = 1 := by unfold cmpN; rw [if_neg (by omega), if_neg (by omega)]
theorem cmpN_eq {a b : Nat} (h : a = b) : cmpN a b = 0 := by unfold cmpN; rw [if_neg (by omega), if_pos h]
theorem cmpN_zero {a b : Nat} (h : cmpN a b = 0) : a = b := by
  unfold cmpN at h
  split at h
  · cases h
  · split at h
    · assumption
    · cases h
theorem cmpN_words {x y : List Nat} (hx : W64 x) (hy : W64 y) (hl : x.length = y.length) {i a b : Nat} (ha : x[i]? = some a) (hb : y[i]? = some b) (hd : x.drop (i + 1) = y.drop (i + 1)) (hc : cmpN a b ≠ 0) : cmpN (val x) (val y) = cmpN a b := by
  rcases Nat.lt_trichotomy a b with h | h | h
  · rw [cmpN_lt h, cmpN_lt (val_cmp hx hl ha hb hd h)]
  · exact (hc (cmpN_eq h)).elim
  · rw [cmpN_gt h, cmpN_gt (val_cmp hy hl.symm hb ha hd.symm h)]
set_option maxRecDepth 100000 in
theorem cmp_any (u v : Value) (x y : List Nat) (w : World) (hx : Wx w u x) (hy : Wx w v y) : Calls Tryz.prog 101 #[u, v] w fun e w' => e = .returned (.int .i64 (cmpN (val x) (val y))) ∧ ∃ k, w' = w.drewN k := by
  obtain ⟨n, hn⟩ : ∃ n, n = size x := ⟨_, rfl⟩
  obtain ⟨m, hm⟩ : ∃ m, m = size y := ⟨_, rfl⟩
  have HN := Lib.hid (size_any u x w hx)
  have HM := Lib.hid (size_any v y w hy)
  rw [← hn] at HN
  rw [← hm] at HM
  have hnl := size_le x
  have hml := size_le y
  rw [← hn] at hnl
  rw [← hm] at hml
  have hxw := hx.1
  have hyw := hy.1
  have HC := fun a b w => Lib.hid (cmpw_any a b w)
  have ht1 := take_size hxw
  have ht2 := take_size hyw
  rw [← hn] at ht1
  rw [← hm] at ht2
  obtain ⟨A, c, rfl, hc, hcx⟩ := hx.view
  obtain ⟨A', c', rfl, hc', hcy⟩ := hy.view
  have hlx := hx.len
  have hly := hy.len
  by_cases hnm : n = m
  · subst hnm
    have hvx : val x = val (x.take n) := by rw [ht1, val_ws]
    have hvy : val y = val (y.take n) := by rw [ht2, val_ws]
    have HEX := Lib.hid hvx
    have HEY := Lib.hid hvy
    clear ht1 ht2 hn hm hvx hvy
    go_enter Tryz.func101, Tryz.ntmps101
    go_wp2_with (first | (go_at_call_of 117 (Value.slice A x.length c); refine HN.out.mono ?_; rintro e w' ⟨rfl, rfl⟩) | (go_at_call_of 117 (Value.slice A' y.length c'); refine HM.out.mono ?_; rintro e w' ⟨rfl, rfl⟩) | fail)
    go_loopw [7] (fun i wr => ∃ k : Nat, i = .int .i64 ((k : Int) - 1) ∧ k ≤ n ∧ Hid ((x.take n).drop k = (y.take n).drop k) ∧ Hid (∃ q, wr = w'.drewN q)) (fun i _ => (intOf i + 1).toNat)
    case atStart => exact ⟨n, rfl, Nat.le_refl _, Lib.hid (by rw [List.drop_eq_nil_of_le (by simp; omega), List.drop_eq_nil_of_le (by simp; omega)]), Lib.hid ⟨0, rfl⟩⟩
    case round =>
      obtain ⟨k, rfl, hk, hd, hq⟩ := hrel
      cases k with
      | zero =>
        go_wp2_with fail
        go_ret
        refine ⟨?_, hq.out⟩
        have := hd.out
        rw [List.drop_zero, List.drop_zero] at this
        rw [HEX.out, HEY.out, this, cmpN_eq rfl]; rfl
      | succ j =>
        obtain ⟨a, ha⟩ : ∃ a, x[j]? = some a := ⟨_, List.getElem?_eq_getElem (by omega)⟩
        obtain ⟨b, hb⟩ : ∃ a, y[j]? = some a := ⟨_, List.getElem?_eq_getElem (by omega)⟩
        have hwr : Below w'.heap.size w' wr := by obtain ⟨q, rfl⟩ := hq.out; exact drewN_below _ _
        obtain ⟨B1, o1, rfl, hB1, hcel1⟩ := hcx (by intro e; subst e; simp at ha)
        obtain ⟨B2, o2, rfl, hB2, hcel2⟩ := hcy (by intro e; subst e; simp at hb)
        have hca : wr.cell? ⟨B1, o1 + j, none⟩ = some (.int .u64 a) := (hwr.cell (by exact hB1)).trans (hcel1 j a ha)
        have hcb : wr.cell? ⟨B2, o2 + j, none⟩ = some (.int .u64 b) := (hwr.cell (by exact hB2)).trans (hcel2 j b hb)
        have ha2 : (x.take n)[j]? = some a := by rw [List.getElem?_take_of_lt (by omega)]; exact ha
        have hb2 : (y.take n)[j]? = some b := by rw [List.getElem?_take_of_lt (by omega)]; exact hb
        have hlen : (x.take n).length = (y.take n).length := by rw [List.length_take_of_le hnl, List.length_take_of_le hml]
        have hjx : j < x.length := by omega
        have hjy : j < y.length := by omega
        have hwt := hxw.take n
        have hwt2 := hyw.take n
        obtain ⟨z, hz⟩ : ∃ z, z = cmpN a b := ⟨_, rfl⟩
        have HC2 := fun w => Lib.hid (cmpw_any a b w)
        rw [← hz] at HC2
        have HZ := Lib.hid hz
        clear hz HC
        by_cases h0 : z = 0
        · subst h0
          have hab := cmpN_zero HZ.out.symm
          subst hab
          have hdn : (x.take n).drop j = (y.take n).drop j := by rw [drop_some ha2, drop_some hb2, hd.out]
          have HD := Lib.hid hdn
          clear hdn ha hb ha2 hb2
          go_wp2_with fail
          go_quiet ((go_at_call 121; exact quiet_eq (HC2 _).out))
          go_wp2_with fail
          go_roundw
          case rel => exact ⟨j, by simp, by omega, HD, by obtain ⟨q, hq⟩ := hq.out; exact Lib.hid ⟨q + nq, by rw [hq, World.drewN_drewN]⟩⟩
          case measure => simp [intOf]
        · have hans := cmpN_words hwt hwt2 hlen ha2 hb2 hd.out (by rw [← HZ.out]; exact h0)
          have HA := Lib.hid hans
          clear hans ha hb ha2 hb2
          have h01 : ¬ z = 0 := h0
          go_wp2_with fail
          go_quiet ((go_at_call 121; exact quiet_eq (HC2 _).out))
          go_wp2_with fail
          go_ret
          refine ⟨by rw [HEX.out, HEY.out, HA.out, ← HZ.out]; rfl, ?_⟩
          obtain ⟨q, hq⟩ := hq.out
          exact ⟨q + nq, by rw [hq, World.drewN_drewN]⟩
  · have hnm2 : ¬ (n : Int) = (m : Int) := by omega
    rcases Nat.lt_or_ge n m with h | h
    · have hv := size_lt_val hxw hyw (by rw [← hn, ← hm]; exact h)
      have HV := Lib.hid hv
      have h2 : (n : Int) < (m : Int) := by omega
      clear ht1 ht2 hn hm hv
      go_enter Tryz.func101, Tryz.ntmps101
      go_wp2_with (first | (go_at_call_of 117 (Value.slice A x.length c); refine HN.out.mono ?_; rintro e w' ⟨rfl, rfl⟩) | (go_at_call_of 117 (Value.slice A' y.length c'); refine HM.out.mono ?_; rintro e w' ⟨rfl, rfl⟩) | fail)
      go_ret
      exact ⟨by rw [cmpN_lt HV.out]; rfl, 0, rfl⟩
    · have hv := size_lt_val hyw hxw (by rw [← hn, ← hm]; omega)
      have HV := Lib.hid hv
      have h2 : ¬ (n : Int) < (m : Int) := by omega
      clear ht1 ht2 hn hm hv
      go_enter Tryz.func101, Tryz.ntmps101
      go_wp2_with (first | (go_at_call_of 117 (Value.slice A x.length c); refine HN.out.mono ?_; rintro e w' ⟨rfl, rfl⟩) | (go_at_call_of 117 (Value.slice A' y.length c'); refine HM.out.mono ?_; rintro e w' ⟨rfl, rfl⟩) | fail)
      go_ret
      exact ⟨by rw [cmpN_gt HV.out]; rfl, 0, rfl⟩
end Go.Proofs.YtjdelpelnjhidaaGreatDoor.Pl
