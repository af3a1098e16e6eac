/- quot: a product taken away from a piece of a row, and what was too much given back. -/
import Derived.Test.YtjdelpelnjhidaaGreatDoorQuoA
namespace Go.Proofs.YtjdelpelnjhidaaGreatDoor.Pl
open Go.RowKit
/-- but for block g nothing that was there has turned -/
structure But (g : Nat) (w w' : World) : Prop where
  os : w'.os = w.os
  tape : w'.tape = w.tape
  output : w'.output = w.output
  size : w.heap.size ≤ w'.heap.size
  block : ∀ k, k < w.heap.size → k ≠ g → w'.heap[k]? = w.heap[k]?
theorem But.refl (g : Nat) (w : World) : But g w w := ⟨rfl, rfl, rfl, Nat.le_refl _, fun _ _ _ => rfl⟩
theorem But.trans {g : Nat} {a b c : World} (h : But g a b) (k : But g b c) : But g a c :=
  ⟨k.os.trans h.os, k.tape.trans h.tape, k.output.trans h.output, Nat.le_trans h.size k.size, fun i hi hg => (k.block i (Nat.lt_of_lt_of_le hi h.size) hg).trans (h.block i hi hg)⟩
theorem But.of_below {g : Nat} {w w' : World} (h : Below w.heap.size w w') : But g w w' := ⟨h.os, h.tape, h.output, h.size, fun k hk _ => h.block k hk⟩
theorem But.set {g : Nat} (w : World) (i : Nat) (u : Value) : But g w (w.setCell ⟨g, i, none⟩ u) := ⟨rfl, rfl, rfl, by simp [World.setCell], fun k _ hg => heap_setCell_other w ⟨g, i, none⟩ k u hg⟩
theorem But.below {g B : Nat} {w0 w w' : World} (h : But g w w') (hB : B ≤ g) (hs : B ≤ w.heap.size) (k : Below B w0 w) : Below B w0 w' :=
  k.trans ⟨h.os, h.tape, h.output, h.size, fun i hi => h.block i (by omega) (by omega)⟩
theorem But.ar {g b t : Nat} {w w' : World} {l : List Nat} (h : But g w w') (ha : Ar w b t l) (hb : b ≠ g) : Ar w' b t l := (h.block b ha.lt hb).trans ha
theorem get_pre {pre P post : List Nat} {off i : Nat} (ho : pre.length = off) (hi : i < P.length) : (pre ++ P ++ post)[off + i]? = P[i]? := by
  rw [List.append_assoc, List.getElem?_append_right (by omega), ho, Nat.add_sub_cancel_left, List.getElem?_append_left hi]
theorem set_pre {pre P post : List Nat} {off i : Nat} (ho : pre.length = off) (hi : i < P.length) (x : Nat) : (pre ++ P ++ post).set (off + i) x = pre ++ P.set i x ++ post := by
  rw [List.append_assoc, List.append_assoc, List.set_append_right _ _ (by omega), ho, Nat.add_sub_cancel_left, List.set_append_left _ _ hi]
theorem take_set_next {P : List Nat} {k x : Nat} (hk : k < P.length) : (P.set k x).take (k + 1) = P.take k ++ [x] := by
  rw [take_succ_some (List.getElem?_set_self hk), List.take_set_of_le (Nat.le_refl _)]
theorem drop_set_next {P : List Nat} {k x : Nat} : (P.set k x).drop (k + 1) = P.drop (k + 1) := by
  rw [List.drop_set_of_lt (Nat.lt_succ_self _)]
theorem val_snoc (a : List Nat) (x k : Nat) (hk : a.length = k) : val (a ++ [x]) = val a + 18446744073709551616 ^ k * x := by
  rw [val_append, hk]; simp [val]
theorem take_carry {a b c hi lo : Nat} (ha : a < 18446744073709551616) (hb : b < 18446744073709551616) (hc : c < 18446744073709551616) (h : 18446744073709551616 * hi + lo = a * b + c) : hi < 18446744073709551616 := by
  have h1 : a * b ≤ 18446744073709551615 * 18446744073709551615 := Nat.mul_le_mul (by omega) (by omega)
  omega
set_option maxRecDepth 100000 in
set_option maxHeartbeats 4000000 in
theorem take_any (g T off n cap cv gv : Nat) (pre P post V : List Nat) (d : Nat) (w : World) (hu : Ar w g T (pre ++ P ++ post)) (hw : W64 P) (hoff : pre.length = off) (hn : P.length = n + 1) (hcap : n + 1 ≤ cap) (hn4 : n ≤ 17592186044416) (hV : Ar w gv 22 V) (hVw : W64 V) (hVn : V.length = n) (hgv : gv ≠ g) (hd : d < 18446744073709551616) :
    Calls Tryz.prog 135 #[.slice (some ⟨g, off, none⟩) (n + 1) cap, .slice (some ⟨gv, 0, none⟩) n cv, .int .u64 d] w fun e w' => ∃ (br : Nat) (P' : List Nat), e = .returned (.bool (br == 1)) ∧ br ≤ 1 ∧ P'.length = n + 1 ∧ W64 P' ∧ Ar w' g T (pre ++ P' ++ post) ∧ val P' + d * val V = val P + 18446744073709551616 ^ (n + 1) * br ∧ But g w w' := by
  have HP := Lib.hid hn
  have HVN := Lib.hid hVn
  have HOF := Lib.hid hoff
  clear hn hVn hoff
  go_enter Tryz.func135, Tryz.ntmps135
  go_wp2_with fail
  go_loopw [16, 7, 8] (fun i ab br wr => ∃ (k a b : Nat) (Q : List Nat), i = .int .i64 k ∧ ab = .int .u64 a ∧ br = .int .u64 b ∧ k ≤ n ∧ a < 18446744073709551616 ∧ b ≤ 1 ∧ Hid (Q.length = n + 1) ∧ W64 Q ∧ Ar wr g T (pre ++ Q ++ post) ∧ Hid (val (Q.take k) + d * val (V.take k) = val (P.take k) + 18446744073709551616 ^ k * (a + b)) ∧ Hid (Q.drop k = P.drop k) ∧ But g w wr) (fun i _ _ _ => n - (intOf i).toNat)
  case atStart => exact ⟨0, 0, 0, P, rfl, rfl, rfl, by omega, by omega, by omega, HP, hw, hu, Lib.hid (by simp [val]), Lib.hid rfl, But.refl _ _⟩
  case round =>
    obtain ⟨k, a, b, Q, rfl, rfl, rfl, hk, ha, hb, hQ, hQw, ho, hv, hd2, hbut⟩ := hrel
    have hVr := hbut.ar hV hgv
    by_cases hkn : k < n
    · obtain ⟨v, hvk⟩ : ∃ v, V[k]? = some v := ⟨_, List.getElem?_eq_getElem (by have := HVN.out; omega)⟩
      have hvw := hVw.get hvk
      obtain ⟨t, ht⟩ : ∃ t, P[k]? = some t := ⟨_, List.getElem?_eq_getElem (by have := HP.out; omega)⟩
      have hQk : Q[k]? = some t := by
        have h1 := congrArg (·[0]?) hd2.out
        simp only [List.getElem?_drop, Nat.add_zero] at h1
        rw [h1]; exact ht
      have htw := hQw.get hQk
      have hkQ : k < Q.length := by have := hQ.out; omega
      have hgt : (pre ++ Q ++ post)[off + k]? = some t := (get_pre HOF.out hkQ).trans hQk
      have hcv := hVr.cell hvk
      have hk1 : k < n + 1 := by omega
      have hk2 : (k : Int) < (n : Int) + 1 := by omega
      go_wp2_with (first
        | (go_at_call 131; refine (mulw_any v d _ hvw hd).mono ?_; rintro e W ⟨⟨hi, lo, rfl, hml, hhi, hlo⟩, hbW⟩; have hoW := ho.below hbW ho.lt; have hcW := hoW.cell hgt; have hfW := hoW.free (off + k))
        | (go_at_call 132; refine (addw_any lo a 0 _ hlo ha (by decide)).mono ?_; rintro e W2 ⟨lo2, c1, rfl, had1, hlo2, hc1, rfl⟩;
            have hcar : hi + c1 < 18446744073709551616 := (take_carry (lo := lo2) hvw hd ha (by omega));
            have hwr : IntKind.u64.wrap ((hi : Int) + (c1 : Int)) = ((hi + c1 : Nat) : Int) := (by simp only [IntKind.wrap_u64]; omega))
        | (go_at_call 145; refine (subw_any t lo2 b _ htw hlo2 hb).mono ?_; rintro e W2 ⟨z, b2, rfl, hsb, hz, hb2, rfl⟩)
        | fail)
      have hst := take_step (w := v) (g := d) (hi := hi + c1) (lo := lo2) (above := a) (br := b) (br' := b2) (ui := t) (x := z) hv.out (by omega) (by omega)
      go_roundw
      case rel =>
        refine ⟨k + 1, hi + c1, b2, Q.set k z, by go_num, by go_num, rfl, by omega, hcar, hb2, Lib.hid (by rw [List.length_set]; exact hQ.out), hQw.set _ hz, ?_, Lib.hid ?_, Lib.hid ?_, ?_⟩
        · rw [← set_pre HOF.out hkQ]; exact hoW.set _ _
        · rw [take_set_next hkQ, val_snoc _ _ k (by rw [List.length_take]; omega), val_take_succ V k v hvk, val_take_succ P k t ht, Nat.pow_succ]
          omega
        · rw [drop_set_next, List.drop_add_one_eq_tail_drop, hd2.out, ← List.drop_add_one_eq_tail_drop]
        · exact (hbut.trans (But.of_below hbW)).trans (But.set _ _ _)
      case measure => simp [intOf]; omega
    · have hkn2 : k = n := by omega
      subst hkn2
      obtain ⟨t, ht⟩ : ∃ t, P[k]? = some t := ⟨_, List.getElem?_eq_getElem (by have := HP.out; omega)⟩
      have hQk : Q[k]? = some t := by
        have h1 := congrArg (·[0]?) hd2.out
        simp only [List.getElem?_drop, Nat.add_zero] at h1
        rw [h1]; exact ht
      have htw := hQw.get hQk
      have hkQ : k < Q.length := by have := hQ.out; omega
      have hgt : (pre ++ Q ++ post)[off + k]? = some t := (get_pre HOF.out hkQ).trans hQk
      have hcW := ho.cell hgt
      have hfW := ho.free (off + k)
      go_wp2_with (first
        | (go_at_call 145; refine (subw_any t a b _ htw ha hb).mono ?_; rintro e W2 ⟨z, b2, rfl, hsb, hz, hb2, rfl⟩)
        | fail)
      go_ret
      refine ⟨b2, Q.set k z, ?_, hb2, by rw [List.length_set]; exact hQ.out, hQw.set _ hz, by rw [← set_pre HOF.out hkQ]; exact ho.set _ _, ?_, hbut.trans (But.set _ _ _)⟩
      · rcases (by omega : b2 = 0 ∨ b2 = 1) with rfl | rfl <;> rfl
      · have h1 : Q.set k z = (Q.set k z).take (k + 1) := by rw [List.take_of_length_le (by rw [List.length_set, hQ.out]; exact Nat.le_refl _)]
        have h2 : P = P.take (k + 1) := by rw [List.take_of_length_le (by rw [HP.out]; exact Nat.le_refl _)]
        have h3 := hv.out
        rw [show V.take k = V by rw [← HVN.out, List.take_length]] at h3
        have h4 : val P = val (P.take k) + 18446744073709551616 ^ k * t := by conv => lhs; rw [h2, val_take_succ P k t ht]
        rw [h1, take_set_next hkQ, val_snoc _ _ k (by rw [List.length_take]; omega), h4, Nat.pow_succ]
        have h5 : 18446744073709551616 ^ k * z + 18446744073709551616 ^ k * (a + b) = 18446744073709551616 ^ k * t + 18446744073709551616 ^ k * 18446744073709551616 * b2 := by
          rw [← Nat.mul_add, Nat.mul_assoc, ← Nat.mul_add]
          congr 1
          omega
        omega
set_option maxRecDepth 100000 in
set_option maxHeartbeats 4000000 in
theorem give_any (g T off n cap cv gv : Nat) (pre P post V : List Nat) (w : World) (hu : Ar w g T (pre ++ P ++ post)) (hw : W64 P) (hoff : pre.length = off) (hn : P.length = n + 1) (hcap : n + 1 ≤ cap) (hn4 : n ≤ 17592186044416) (hV : Ar w gv 22 V) (hVw : W64 V) (hVn : V.length = n) (hgv : gv ≠ g) :
    Calls Tryz.prog 136 #[.slice (some ⟨g, off, none⟩) (n + 1) cap, .slice (some ⟨gv, 0, none⟩) n cv] w fun e w' => ∃ (c : Nat) (P' : List Nat), e = .returned (.tuple #[]) ∧ P'.length = n + 1 ∧ W64 P' ∧ Ar w' g T (pre ++ P' ++ post) ∧ val P' + 18446744073709551616 ^ (n + 1) * c = val P + val V ∧ But g w w' := by
  have HP := Lib.hid hn
  have HVN := Lib.hid hVn
  have HOF := Lib.hid hoff
  clear hn hVn hoff
  go_enter Tryz.func136, Tryz.ntmps136
  go_wp2_with fail
  go_loopw [9, 4] (fun i br wr => ∃ (k b : Nat) (Q : List Nat), i = .int .i64 k ∧ br = .int .u64 b ∧ k ≤ n ∧ b ≤ 1 ∧ Hid (Q.length = n + 1) ∧ W64 Q ∧ Ar wr g T (pre ++ Q ++ post) ∧ Hid (val (Q.take k) + 18446744073709551616 ^ k * b = val (P.take k) + val (V.take k)) ∧ Hid (Q.drop k = P.drop k) ∧ But g w wr) (fun i _ _ => n - (intOf i).toNat)
  case atStart => exact ⟨0, 0, P, rfl, rfl, by omega, by omega, HP, hw, hu, Lib.hid (by simp [val]), Lib.hid rfl, But.refl _ _⟩
  case round =>
    obtain ⟨k, b, Q, rfl, rfl, hk, hb, hQ, hQw, ho, hv, hd2, hbut⟩ := hrel
    have hVr := hbut.ar hV hgv
    by_cases hkn : k < n
    · obtain ⟨v, hvk⟩ : ∃ v, V[k]? = some v := ⟨_, List.getElem?_eq_getElem (by have := HVN.out; omega)⟩
      have hvw := hVw.get hvk
      obtain ⟨t, ht⟩ : ∃ t, P[k]? = some t := ⟨_, List.getElem?_eq_getElem (by have := HP.out; omega)⟩
      have hQk : Q[k]? = some t := by
        have h1 := congrArg (·[0]?) hd2.out
        simp only [List.getElem?_drop, Nat.add_zero] at h1
        rw [h1]; exact ht
      have htw := hQw.get hQk
      have hkQ : k < Q.length := by have := hQ.out; omega
      have hgt : (pre ++ Q ++ post)[off + k]? = some t := (get_pre HOF.out hkQ).trans hQk
      have hcv := hVr.cell hvk
      have hcW := ho.cell hgt
      have hfW := ho.free (off + k)
      have hk1 : k < n + 1 := by omega
      have hk2 : (k : Int) < (n : Int) + 1 := by omega
      go_wp2_with (first
        | (go_at_call 132; refine (addw_any t v b _ htw hvw hb).mono ?_; rintro e W2 ⟨z, b2, rfl, hsb, hz, hb2, rfl⟩)
        | fail)
      have hst := give_step (P := 18446744073709551616 ^ k) (x := z) (c' := b2) hv.out (show z + b2 * 18446744073709551616 = t + v + b by omega)
      go_roundw
      case rel =>
        refine ⟨k + 1, b2, Q.set k z, by go_num, rfl, by omega, hb2, Lib.hid (by rw [List.length_set]; exact hQ.out), hQw.set _ hz, ?_, Lib.hid ?_, Lib.hid ?_, ?_⟩
        · rw [← set_pre HOF.out hkQ]; exact ho.set _ _
        · rw [take_set_next hkQ, val_snoc _ _ k (by rw [List.length_take]; omega), val_take_succ V k v hvk, val_take_succ P k t ht, Nat.pow_succ]
          omega
        · rw [drop_set_next, List.drop_add_one_eq_tail_drop, hd2.out, ← List.drop_add_one_eq_tail_drop]
        · exact hbut.trans (But.set _ _ _)
      case measure => simp [intOf]; omega
    · have hkn2 : k = n := by omega
      subst hkn2
      obtain ⟨t, ht⟩ : ∃ t, P[k]? = some t := ⟨_, List.getElem?_eq_getElem (by have := HP.out; omega)⟩
      have hQk : Q[k]? = some t := by
        have h1 := congrArg (·[0]?) hd2.out
        simp only [List.getElem?_drop, Nat.add_zero] at h1
        rw [h1]; exact ht
      have htw := hQw.get hQk
      have hkQ : k < Q.length := by have := hQ.out; omega
      have hgt : (pre ++ Q ++ post)[off + k]? = some t := (get_pre HOF.out hkQ).trans hQk
      have hcW := ho.cell hgt
      have hfW := ho.free (off + k)
      obtain ⟨z, hz⟩ : ∃ z, z = (t + b) % 18446744073709551616 := ⟨_, rfl⟩
      obtain ⟨c, hc⟩ : ∃ z, z = (t + b) / 18446744073709551616 := ⟨_, rfl⟩
      have e1 : IntKind.u64.wrap ((t : Int) + (b : Int)) = (z : Int) := by simp only [IntKind.wrap_u64]; omega
      have HZ := Lib.hid (show z + 18446744073709551616 * c = t + b by omega)
      have hzw : z < 18446744073709551616 := by omega
      clear hz hc
      go_wp2_with fail
      go_end0
      refine ⟨c, Q.set k z, rfl, by rw [List.length_set]; exact hQ.out, hQw.set _ hzw, by rw [← set_pre HOF.out hkQ]; exact ho.set _ _, ?_, hbut.trans (But.set _ _ _)⟩
      have h1 : Q.set k z = (Q.set k z).take (k + 1) := by rw [List.take_of_length_le (by rw [List.length_set, hQ.out]; exact Nat.le_refl _)]
      have h2 : P = P.take (k + 1) := by rw [List.take_of_length_le (by rw [HP.out]; exact Nat.le_refl _)]
      have h3 := hv.out
      rw [show V.take k = V by rw [← HVN.out, List.take_length]] at h3
      have h4 : val P = val (P.take k) + 18446744073709551616 ^ k * t := by conv => lhs; rw [h2, val_take_succ P k t ht]
      rw [h1, take_set_next hkQ, val_snoc _ _ k (by rw [List.length_take]; omega), h4, Nat.pow_succ]
      have h5 : 18446744073709551616 ^ k * z + 18446744073709551616 ^ k * 18446744073709551616 * c = 18446744073709551616 ^ k * t + 18446744073709551616 ^ k * b := by
        rw [Nat.mul_assoc, ← Nat.mul_add, ← Nat.mul_add, HZ.out]
      omega
end Go.Proofs.YtjdelpelnjhidaaGreatDoor.Pl
