/- ryu.Shortest, walked. -/
import Derived.Test.YtjdelpelnjhidaaGreatDoorRyuS
import Derived.WalkMore
namespace Go.Proofs.YtjdelpelnjhidaaGreatDoor.Pl
open Go.RowKit
/-- the shortest digits of a pattern: found at the first power of ten from the number's size on that has a candidate; no zero at the end -/
def ShortR (b d : Nat) (x : Int) : Prop := ∃ (t : Int) (i k : Nat), Top b t ∧ i ≤ 16 ∧ 0 < candE b (t - i) ∧ (∀ j : Nat, j < i → candE b (t - j) = 0) ∧ candE b (t - i) = d * 10 ^ k ∧ x = t - i + k ∧ d % 10 ≠ 0 ∧ -400 ≤ x ∧ x ≤ 800
theorem clear_sign (b : Nat) (hb : b < 9223372036854775808) : bits .andNot .u64 (b : Int) 9223372036854775808 = (b : Int) := by
  have h1 : (BitVec.ofInt 64 (b : Int)).toNat = b := by
    rw [BitVec.ofInt_natCast, BitVec.toNat_ofNat]; exact Nat.mod_eq_of_lt (by omega)
  have h2 : (BitVec.ofInt 64 (9223372036854775808 : Int)).toNat = 9223372036854775808 := by decide
  show IntKind.u64.wrap ((BitVec.ofInt 64 (b : Int) &&& ~~~ BitVec.ofInt 64 (9223372036854775808 : Int)).toNat : Int) = _
  rw [BitVec.toNat_and, BitVec.toNat_not, h1, h2, show 2 ^ 64 - 1 - 9223372036854775808 = 2 ^ 63 - 1 by decide, Nat.and_two_pow_sub_one_eq_mod, Nat.mod_eq_of_lt hb]
  simp only [IntKind.wrap_u64]
  omega
/-- a row with the numbers of an interval -/
structure ScRow (w : World) (S : Nat) (a b c d : Value) (ends : Bool) (lo he hi de : Nat) : Prop where
  row : w.heap[S]? = some (.cells #[a, b, c, d, .bool ends] 129 (0, 0))
  wa : Wx w a (ws lo)
  wb : Wx w b (ws he)
  wc : Wx w c (ws hi)
  wd : Wx w d (ws de)
theorem ScRow.below {w w' : World} {S : Nat} {a b c d : Value} {ends : Bool} {lo he hi de : Nat} (h : ScRow w S a b c d ends lo he hi de) (k : Below w.heap.size w w') : ScRow w' S a b c d ends lo he hi de :=
  ⟨(k.block S (lt_of_heap h.row)).trans h.row, h.wa.below k, h.wb.below k, h.wc.below k, h.wd.below k⟩
theorem ScRow.sc {w : World} {S : Nat} {a b c d : Value} {ends : Bool} {lo he hi de : Nat} (h : ScRow w S a b c d ends lo he hi de) : IsSc w (.agg #[a, b, c, d, .bool ends]) lo he hi de ends := ⟨a, b, c, d, rfl, h.wa, h.wb, h.wc, h.wd⟩
theorem ScRow.new (w : World) {a b c d : Value} {ends : Bool} {lo he hi de : Nat} (ha : Wx w a (ws lo)) (hb : Wx w b (ws he)) (hc : Wx w c (ws hi)) (hd : Wx w d (ws de)) : ScRow (w.alloc (.cells #[a, b, c, d, .bool ends] 129 (0, 0))) w.heap.size a b c d ends lo he hi de :=
  have k : Below w.heap.size w (w.alloc (.cells #[a, b, c, d, .bool ends] 129 (0, 0))) := (Below.refl _ _).alloc (Nat.le_refl _) _
  ⟨World.alloc_heap_new w _, ha.below k, hb.below k, hc.below k, hd.below k⟩
theorem below_new (w : World) (o : Obj) : Below w.heap.size w (w.alloc o) := (Below.refl _ _).alloc (Nat.le_refl _) _
theorem by_E {b : Nat} {w : World} {S : Nat} {x1 x2 x3 x4 : Value} {ends : Bool} (hf : finP b) (h : ScRow w S x1 x2 x3 x4 ends (loN b) (heN b) (hiN b) (deN b)) (e : Int) (h1 : -400 ≤ e) (h2 : e ≤ 400) : Calls Tryz.prog 97 #[.agg #[x1, x2, x3, x4, .bool ends], .int .i64 e] w fun r w' => (∃ y1 y2 y3 y4, r = .returned (.agg #[y1, y2, y3, y4, .bool ends]) ∧ Wx w' y1 (ws (loE b e)) ∧ Wx w' y2 (ws (heE b e)) ∧ Wx w' y3 (ws (hiE b e)) ∧ Wx w' y4 (ws (deE b e))) ∧ Below w.heap.size w w' := by
  obtain ⟨k1, k2, k3, k4⟩ := bl_bounds hf
  refine (by_any _ _ _ _ _ ends e w h.sc (by omega) (by omega) (by omega) (by omega) (by omega) (by omega)).mono ?_
  rintro r w' ⟨⟨v', rfl, y1, y2, y3, y4, rfl, g1, g2, g3, g4⟩, hb⟩
  exact ⟨⟨y1, y2, y3, y4, rfl, g1, g2, g3, g4⟩, hb⟩
theorem bl_E {b : Nat} (hf : finP b) {e : Int} (h1 : -400 ≤ e) (h2 : e ≤ 400) : bl (heE b e) ≤ 3000 ∧ bl (deE b e) ≤ 3000 := by
  obtain ⟨k1, k2, k3, k4⟩ := bl_bounds hf
  have a1 := bl_mul_le (a := heN b) (b := 10 ^ (-e).toNat)
  have a2 := bl_mul_le (a := deN b) (b := 10 ^ e.toNat)
  have a3 := bl10 (-e).toNat
  have a4 := bl10 e.toNat
  unfold heE deE
  exact ⟨by omega, by omega⟩
theorem divmod_E {b : Nat} {w : World} {y2 y4 : Value} (hf : finP b) {e : Int} (h1 : -400 ≤ e) (h2 : e ≤ 400) (g2 : Wx w y2 (ws (heE b e))) (g4 : Wx w y4 (ws (deE b e))) : Calls Tryz.prog 98 #[y2, y4] w fun r w' => (∃ z1 z2, r = .returned (.tuple #[z1, z2, .int .i64 0]) ∧ Wx w' z1 (ws (qE b e)) ∧ Wx w' z2 (ws (rE b e))) ∧ Below w.heap.size w w' := by
  obtain ⟨k1, k2⟩ := bl_E hf h1 h2
  have h := divmod_any y2 y4 (ws (heE b e)) (ws (deE b e)) w g2 g4 (by have := ws_len_bits (n := heE b e) (k := 100) (by omega); omega) (by have := ws_len_bits (n := deE b e) (k := 100) (by omega); omega) (by rw [val_ws]; exact deE_pos b e)
  rw [val_ws, val_ws] at h
  exact h
theorem rE_lt (b : Nat) (e : Int) : rE b e < deE b e := Nat.mod_lt _ (deE_pos b e)
theorem bl_lt {a b k : Nat} (h : a < b) (hb : bl b ≤ k) : bl a ≤ k := bl_le_iff.2 (Nat.lt_trans h (bl_le_iff.1 hb))
theorem shl_E {b : Nat} {w : World} {z : Value} (hf : finP b) {e : Int} (h1 : -400 ≤ e) (h2 : e ≤ 400) (g : Wx w z (ws (rE b e))) : Calls Tryz.prog 100 #[z, .int .i64 1] w fun r w' => (∃ z', r = .returned (.tuple #[z', .int .i64 0]) ∧ Wx w' z' (ws (rE b e * 2))) ∧ Below w.heap.size w w' := by
  obtain ⟨k1, k2⟩ := bl_E hf h1 h2
  have hl : bl (rE b e) ≤ 3000 := bl_lt (rE_lt b e) k2
  have h := shl_any z (ws (rE b e)) 1 w g (by have := ws_len_bits (n := rE b e) (k := 100) (by omega); omega) (by rw [val_ws]; omega)
  rw [val_ws] at h
  exact h
theorem cmp_E {w : World} {u v : Value} {x y : Nat} (hx : Wx w u (ws x)) (hy : Wx w v (ws y)) : Calls Tryz.prog 101 #[u, v] w fun r w' => r = .returned (.int .i64 (cmpN x y)) ∧ Below w.heap.size w w' := by
  have h := cmp_any u v (ws x) (ws y) w hx hy
  rw [val_ws, val_ws] at h
  refine h.mono ?_
  rintro e w' ⟨rfl, k, rfl⟩
  exact ⟨rfl, drewN_below _ _⟩
theorem word_E {w : World} {v : Value} {x : Nat} (hx : Wx w v (ws x)) (h : x < 18446744073709551616) : Calls Tryz.prog 99 #[v] w fun e w' => e = .returned (.tuple #[.int .u64 x, .bool true]) ∧ w' = w := by
  have h := word_any v (ws x) w hx (by rw [val_ws]; exact h)
  rw [val_ws] at h
  exact h
theorem round_cases (b : Nat) (e : Int) (q p : Nat) (hq : q = qE b e) (hp : p = q + 1) :
    (∃ f s, f = p ∧ s = q ∧ fstE b e = f ∧ sndE b e = s ∧ cmpN (rE b e * 2) (deE b e) = 1) ∨
    (∃ f s, f = p ∧ s = q ∧ fstE b e = f ∧ sndE b e = s ∧ cmpN (rE b e * 2) (deE b e) = 0 ∧ q % 2 = 1) ∨
    (∃ f s, f = q ∧ s = p ∧ fstE b e = f ∧ sndE b e = s ∧ cmpN (rE b e * 2) (deE b e) = 0 ∧ q % 2 = 0) ∨
    (∃ f s, f = q ∧ s = p ∧ fstE b e = f ∧ sndE b e = s ∧ cmpN (rE b e * 2) (deE b e) = -1) := by
  have hu : upE b e = (decide (deE b e < rE b e * 2) || (decide (rE b e * 2 = deE b e) && decide (qE b e % 2 = 1))) := rfl
  unfold fstE sndE
  rw [hu, ← hq, ← hp]
  unfold cmpN
  rcases Nat.lt_trichotomy (rE b e * 2) (deE b e) with h | h | h
  · refine Or.inr (Or.inr (Or.inr ⟨q, p, rfl, rfl, ?_⟩))
    rw [decide_eq_false (by omega : ¬ deE b e < rE b e * 2), decide_eq_false (by omega : ¬ rE b e * 2 = deE b e)]
    simp [h]
  · rcases Nat.mod_two_eq_zero_or_one q with hz | hz
    · refine Or.inr (Or.inr (Or.inl ⟨q, p, rfl, rfl, ?_⟩))
      rw [decide_eq_false (by omega : ¬ deE b e < rE b e * 2), decide_eq_true h]
      simp [h, hz]
    · refine Or.inr (Or.inl ⟨p, q, rfl, rfl, ?_⟩)
      rw [decide_eq_false (by omega : ¬ deE b e < rE b e * 2), decide_eq_true h]
      simp [h, hz]
  · refine Or.inl ⟨p, q, rfl, rfl, ?_⟩
    rw [decide_eq_true h]
    have h2 : ¬ rE b e * 2 < deE b e := by omega
    have h3 : ¬ rE b e * 2 = deE b e := by omega
    simp [h2]
    omega
theorem holds_E {b : Nat} {w : World} {S : Nat} {x1 x2 x3 x4 : Value} {ev : Bool} (hf : finP b) {e : Int} (h1 : -400 ≤ e) (h2 : e ≤ 400) (h : ScRow w S x1 x2 x3 x4 ev (loE b e) (heE b e) (hiE b e) (deE b e)) (hev : ev = (b % 2 == 0)) {d : Nat} (hd : 0 < d) (hd2 : d < 18446744073709551616) : Calls Tryz.prog 102 #[.agg #[x1, x2, x3, x4, .bool ev], .int .u64 d] w fun r w' => r = .returned (.bool (okE b e d)) ∧ Below w.heap.size w w' := by
  obtain ⟨k1, k2⟩ := bl_E hf h1 h2
  have hh := holds_any _ _ _ _ _ ev d w h.sc hd2 (by omega)
  have ho : okE b e d = holdsB (loE b e) (hiE b e) (deE b e) ev d := by
    unfold okE
    rw [decide_eq_true hd, hev, Bool.true_and]
  rw [ho]
  exact hh
theorem cand_none {b : Nat} {e : Int} {f s : Nat} (hf : fstE b e = f) (hs : sndE b e = s) (h1 : okE b e f = false) (h2 : okE b e s = false) : candE b e = 0 := by
  unfold candE
  rw [hf, hs, h1, h2]
  rfl
theorem cand_fst {b : Nat} {e : Int} {f : Nat} (hf : fstE b e = f) (h1 : okE b e f = true) : candE b e = f := by
  unfold candE
  rw [hf, if_pos h1]
theorem cand_snd {b : Nat} {e : Int} {f s : Nat} (hf : fstE b e = f) (hs : sndE b e = s) (h1 : okE b e f = false) (h2 : okE b e s = true) : candE b e = s := by
  unfold candE
  rw [hf, hs, h1, if_neg (by decide), if_pos h2]
theorem pow_small {d k d0 : Nat} (h0 : 0 < d0) (hl : d0 ≤ 100000000000000000) (hd : d * 10 ^ k = d0) : k ≤ 17 ∧ 0 < d := by
  have hd1 : 0 < d := by
    rcases Nat.eq_zero_or_pos d with h | h
    · rw [h, Nat.zero_mul] at hd; omega
    · exact h
  refine ⟨?_, hd1⟩
  have h1 : 1 * 10 ^ k ≤ d * 10 ^ k := Nat.mul_le_mul_right _ hd1
  have h2 : (10 : Nat) ^ 17 = 100000000000000000 := by decide
  have h3 : (10 : Nat) ^ k ≤ 10 ^ 17 := by omega
  exact (Nat.pow_le_pow_iff_right (by decide)).1 h3
theorem short_made {b d d0 k i : Nat} {t e : Int} (hT : Top b t) (hi : i ≤ 16) (he : e = t - (i : Int)) (hno : ∀ j : Nat, j < i → candE b (t - j) = 0) (hc : candE b e = d0) (h0 : 0 < d0) (hl : d0 ≤ 100000000000000000) (hd : d * 10 ^ k = d0) (hm : ¬ d % 10 = 0) (htl : -375 ≤ t) (hth : t ≤ 376) : ShortR b d (e + k) := by
  have hk := (pow_small h0 hl hd).1
  subst he
  exact ⟨t, i, k, hT, hi, by omega, hno, by omega, rfl, hm, by omega, by omega⟩
theorem strip_step {d k d0 : Nat} (h : d * 10 ^ k = d0) (h10 : (d : Int) % 10 = 0) : d / 10 * 10 ^ (k + 1) = d0 := by
  have h1 : d = 10 * (d / 10) := by omega
  rw [← h, Nat.pow_succ]
  generalize 10 ^ k = p
  generalize d / 10 = m at *
  subst h1
  rw [Nat.mul_comm p 10, ← Nat.mul_assoc, Nat.mul_comm m 10]
set_option maxRecDepth 100000 in
set_option maxHeartbeats 40000000 in
theorem shortest_any (b : Nat) (w : World) (hb : b < 9223372036854775808) (h0 : b ≠ 0) (hf : finP b) : Calls Tryz.prog 84 #[.int .u64 b] w fun e w' => (∃ (d : Nat) (x : Int), e = .returned (.tuple #[.int .u64 d, .int .i64 x, .int .i64 0]) ∧ ShortR b d x ∧ d < 18446744073709551616) ∧ Below w.heap.size w w' := by
  have hcs := clear_sign b hb
  have hmp := mantP_pos hb h0
  have hml := mantP_lt b
  have hel := expP_lo b
  have heh := expP_hi hf
  obtain ⟨hbl, hbh, hbi, hbd⟩ := bl_bounds hf
  have HC := fun w => Lib.hid (cls_any b w (by omega))
  have hc3 : cls b < 3 := by
    unfold cls
    unfold finP at hf
    split
    · split <;> decide
    · split
      · decide
      · omega
  obtain ⟨cl, hcl⟩ : ∃ c, c = cls b := ⟨_, rfl⟩
  rw [← hcl] at HC hc3
  clear hcl
  have hc4 : ¬ (3 : Int) ≤ cl := by omega
  have hb0 : ((b : Int) == 0) = false := by simp; omega
  have HI : ∀ w, Hid (Calls Tryz.prog 94 #[.int .u64 b] w fun e w' => (∃ v, e = .returned v ∧ IsSc w' v (loN b) (heN b) (hiN b) (deN b) (b % 2 == 0)) ∧ Below w.heap.size w w') := fun w => Lib.hid (interval_any b w hb h0 hf)
  have HSP := fun w => Lib.hid (split_any b w (by omega) hf)
  have HL := fun w => Lib.hid (len_any (mantP b) w (by omega))
  have hblm : bl (mantP b) ≤ 53 := bl_le_iff.2 hml
  have hblp := bl_pos (n := mantP b) (by omega)
  obtain ⟨k, hk⟩ : ∃ k, k = expP b + bl (mantP b) - 1 := ⟨_, rfl⟩
  have HLG := fun w => Lib.hid (log_any k w (by omega) (by omega))
  have ek : IntKind.i64.wrap (IntKind.i64.wrap (expP b + (bl (mantP b) : Int)) - 1) = k := by
    rw [IntWalk.i64_in (expP b + (bl (mantP b) : Int)) (by omega), IntWalk.i64_in _ (by omega), hk]
  have ek2 : expP b + (bl (mantP b) : Int) - 1 = k := hk.symm
  obtain ⟨M, hM⟩ : ∃ m, m = mantP b := ⟨_, rfl⟩
  obtain ⟨E, hE⟩ : ∃ m, m = expP b := ⟨_, rfl⟩
  obtain ⟨BL, hBL⟩ : ∃ m, m = bl (mantP b) := ⟨_, rfl⟩
  rw [← hBL] at HL hblm hblp ek ek2 
  rw [← hM] at HSP HL
  rw [← hE] at HSP ek ek2 hel heh
  have HK := Lib.hid hk
  obtain ⟨ev, hev⟩ : ∃ x, x = (b % 2 == 0) := ⟨_, rfl⟩
  rw [← hev] at HI
  have HEV := Lib.hid hev
  have HMP := Lib.hid hmp
  clear hk hM hE hBL hev hmp hml
  go_enter Tryz.func84, Tryz.ntmps84
  go_wp2
  go_step3
  go_wp2_with (first
    | (go_at_call 21; refine (HC _).out.mono ?_; rintro e w1 ⟨rfl, hw1⟩; subst hw1)
    | (go_at_call 94; refine (HI _).out.mono ?_; rintro e w1 ⟨⟨v, rfl, hsc⟩, hb1⟩; obtain ⟨za, zb, zc, zd, rfl, hwa, hwb, hwc, hwd⟩ := hsc; obtain ⟨A1, n1, c1, rfl⟩ := hwa.form; obtain ⟨A2, n2, c2, rfl⟩ := hwb.form; obtain ⟨A3, n3, c3, rfl⟩ := hwc.form; obtain ⟨A4, n4, c4, rfl⟩ := hwd.form)
    | (go_at_call 67; refine (HSP _).out.mono ?_; rintro e w2 ⟨⟨ng, rfl⟩, hw2⟩; subst hw2)
    | (go_at_call 96; refine (HL _).out.mono ?_; rintro e w2 ⟨rfl, hw2⟩; subst hw2)
    | (go_at_call 95; refine (HLG _).out.mono ?_; rintro e w2 ⟨⟨r, rfl, hlg⟩, hb2⟩;
        have hA1 := (ScRow.new w1 (ends := ev) hwa hwb hwc hwd).below hb2; have hB2 : Below w.heap.size w w2 := hb1.trans (((below_new w1 _).trans (hb2.mono (by simp))).mono hb1.size);
        obtain ⟨s0, s1, s2, s3, s4, fs⟩ := five_cells hA1.row; have hrb := lg_bounds (by omega) (by omega) hlg; have er1 : IntKind.i64.wrap (r + 1) = r + 1 := (IntWalk.i64_in _ (by omega)); have hby := Lib.hid (by_E hf hA1 (r + 1) (by omega) (by omega)))
    | (go_at_call 97; refine hby.out.mono ?_; rintro e w3 ⟨⟨y1, y2, y3, y4, rfl, g1, g2, g3, g4⟩, hb3⟩; obtain ⟨B1, m1, k1, rfl⟩ := g1.form; obtain ⟨B2, m2, k2, rfl⟩ := g2.form; obtain ⟨B3, m3, k3, rfl⟩ := g3.form; obtain ⟨B4, m4, k4, rfl⟩ := g4.form; have hdm := Lib.hid (divmod_E hf (e := r + 1) (by omega) (by omega) (g2.below (below_new w3 (.cells #[.slice B1 m1 k1, .slice B2 m2 k2, .slice B3 m3 k3, .slice B4 m4 k4, .bool ev] 129 (0, 0)))) (g4.below (below_new w3 _))))
    | (go_at_call 98; refine hdm.out.mono ?_; rintro e w4 ⟨⟨z1, z2, rfl, hz1, hz2⟩, hb4⟩; obtain ⟨C1, kk1, rfl, _, _⟩ := hz1.view; obtain ⟨nq, hnq⟩ : ∃ n, n = (ws (qE b (r + 1))).length := ⟨_, rfl⟩; rw [← hnq]; have HNQ := Lib.hid hnq; clear hnq; have hA4 := hA1.below (below3 hb3 (below_new w3 (.cells #[.slice B1 m1 k1, .slice B2 m2 k2, .slice B3 m3 k3, .slice B4 m4 k4, .bool ev] 129 (0, 0))) hb4); have hB4 : Below w.heap.size w w4 := hB2.trans ((below3 hb3 (below_new w3 (.cells #[.slice B1 m1 k1, .slice B2 m2 k2, .slice B3 m3 k3, .slice B4 m4 k4, .bool ev] 129 (0, 0))) hb4).mono hB2.size))
    | fail)
  · have hT : Top b (r + 1) := by
      refine ⟨?_, lg_high HMP.out HK.out hlg⟩
      apply Classical.byContradiction
      intro hc
      have hq : qE b (r + 1) = 0 := Nat.div_eq_of_lt (by omega)
      have := HNQ.out
      have := ws_len_zero.2 hq
      omega
    have htl : -375 ≤ r + 1 := by omega
    have hth : r + 1 ≤ 376 := by omega
    have er2 : ((r + 1 : Int) : Int) = r + 1 := rfl
    obtain ⟨t, ht⟩ : ∃ t, t = r + 1 := ⟨_, rfl⟩
    rw [← ht] at hT htl hth
    rw [← ht]
    clear er2 hdm hby g1 g2 g3 g4 hz1 hz2 hA1 s0 s1 s2 s3 s4 fs
    obtain ⟨S, hS⟩ : ∃ S, S = w1.heap.size := ⟨_, rfl⟩
    rw [← hS] at hA4 ⊢
    clear hS ht
    have hS4 : S < w4.heap.size := lt_of_heap hA4.row
    rw [show decide ((3 : Int) ≤ cl) = false from decide_eq_false (by omega)]
    try rw [show decide ((0 : Int) < (nq : Int)) = true from decide_eq_true (by omega)]
    try rw [show decide (0 < nq) = true from decide_eq_true (by omega)]
    go_step3
    go_wp2
    go_loopw [17] (fun e wr => ∃ i : Nat, e = .int .i64 (t - i) ∧ i ≤ 16 ∧ Hid (∀ j : Nat, j < i → candE b (t - j) = 0) ∧ ScRow wr S (.slice A1 n1 c1) (.slice A2 n2 c2) (.slice A3 n3 c3) (.slice A4 n4 c4) ev (loN b) (heN b) (hiN b) (deN b) ∧ Below w.heap.size w wr) (fun e _ => (intOf e + 1000).toNat)
    case atStart => exact ⟨0, by simp, by omega, Lib.hid (fun j hj => by omega), hA4, hB4⟩
    case round =>
      clear hA4 hB4 hS4
      obtain ⟨i, rfl, hi, hno, hA, hB⟩ := hrel
      obtain ⟨s0, s1, s2, s3, s4, fs⟩ := five_cells hA.row
      have hSr : S < wr.heap.size := lt_of_heap hA.row
      have hqw := hT.q_word hi
      have hqp := hT.q_pos i
      have hff : i = 16 → okE b (t - (i : Int)) (fstE b (t - (i : Int))) = true := fun h => by subst h; exact hT.found HMP.out
      have HFF := Lib.hid hff
      clear hff
      obtain ⟨e, he⟩ : ∃ e, e = t - (i : Int) := ⟨_, rfl⟩
      rw [← he] at hqw hqp HFF ⊢
      have hel : -391 ≤ e := by omega
      have heh : e ≤ 376 := by omega
      have HE := Lib.hid he
      clear he
      have hgt : (-400 : Int) < e := by omega
      have hby := Lib.hid (by_E hf hA e (by omega) (by omega))
      obtain ⟨q, hq⟩ : ∃ q, q = qE b e := ⟨_, rfl⟩
      have HQ := Lib.hid hq
      rw [← hq] at hqw hqp
      clear hq
      go_wp2_with (first
        | (go_at_call 97; refine hby.out.mono ?_; rintro e0 w5 ⟨⟨y1, y2, y3, y4, rfl, g1, g2, g3, g4⟩, hb5⟩; obtain ⟨B1, m1, k1, rfl⟩ := g1.form; obtain ⟨B2, m2, k2, rfl⟩ := g2.form; obtain ⟨B3, m3, k3, rfl⟩ := g3.form; obtain ⟨B4, m4, k4, rfl⟩ := g4.form; have hdm := Lib.hid (divmod_E hf (e := e) (by omega) (by omega) (g2.below (below_new w5 (.cells #[.slice B1 m1 k1, .slice B2 m2 k2, .slice B3 m3 k3, .slice B4 m4 k4, .bool ev] 129 (0, 0)))) (g4.below (below_new w5 _)));
            have hB5 := ScRow.new w5 (ends := ev) g1 g2 g3 g4; have hA5 := hA.below (hb5.trans ((below_new w5 (.cells #[.slice B1 m1 k1, .slice B2 m2 k2, .slice B3 m3 k3, .slice B4 m4 k4, .bool ev] 129 (0, 0))).mono hb5.size)))
        | (go_at_call 98; refine hdm.out.mono ?_; rintro e0 w6 ⟨⟨u1, u2, rfl, hz1, hz2⟩, hb6⟩; rw [← HQ.out] at hz1; have hA6 := hA5.below hb6; have hB6 := hB5.below hb6; have hwd := Lib.hid (word_E hz1 (by omega)); have hsh := Lib.hid (shl_E hf (by omega) (by omega) hz2))
        | (go_at_call 99; refine hwd.out.mono ?_; rintro e0 w7 ⟨rfl, hw7⟩; subst hw7)
        | (go_at_call 100; refine hsh.out.mono ?_; rintro e0 w7 ⟨⟨u3, rfl, hu3⟩, hb7⟩; have hA7 := hA6.below hb7; have hB7 := hB6.below hb7; have hW7 : Below w.heap.size w w7 := hB.trans (((below3 hb5 (below_new w5 (.cells #[.slice B1 m1 k1, .slice B2 m2 k2, .slice B3 m3 k3, .slice B4 m4 k4, .bool ev] 129 (0, 0))) hb6).trans (hb7.mono (Nat.le_trans (below3 hb5 (below_new w5 (.cells #[.slice B1 m1 k1, .slice B2 m2 k2, .slice B3 m3 k3, .slice B4 m4 k4, .bool ev] 129 (0, 0))) hb6).size (Nat.le_refl _)))).mono hB.size); have hcm := Lib.hid (cmp_E hu3 hB7.wd); obtain ⟨t0, t1, t2, t3, t4, ft⟩ := five_cells hB7.row)
        | fail)
      obtain ⟨p, hp⟩ : ∃ p, p = q + 1 := ⟨_, rfl⟩
      have hcase := round_cases b e q p HQ.out hp
      have ep : (q : Int) + 1 = p := by omega
      have epw : IntKind.u64.wrap ((q : Int) + 1) = p := by rw [IntKind.wrap_u64]; omega
      have hpl : p ≤ 100000000000000000 := by omega
      clear hp HQ
      rcases hcase with ⟨f, s, hf1, hf2, hF, hS, hc⟩ | ⟨f, s, hf1, hf2, hF, hS, hc, hq2⟩ | ⟨f, s, hf1, hf2, hF, hS, hc, hq2⟩ | ⟨f, s, hf1, hf2, hF, hS, hc⟩
      all_goals
        subst hf1 hf2
        rw [hc] at hcm
        have HF := Lib.hid hF
        have HS := Lib.hid hS
        clear hF hS hc hby hdm hwd hsh
        try have hq3 : ((s : Int) % 2 == 1) = true := beq_iff_eq.2 (by have := hq2; omega)
        try have hq4 : ((f : Int) % 2 == 1) = false := (by have := hq2; have h0 : (f : Int) % 2 = 0 := (by omega); rw [h0]; rfl)
        go_wp2_with (first
          | (go_at_call 101; refine hcm.out.mono ?_; rintro e0 w8 ⟨rfl, hb8⟩; have hA8 := hA7.below hb8; have hB8 := hB7.below hb8; have hW8 : Below w.heap.size w w8 := hW7.trans (hb8.mono hW7.size))
          | fail)
      all_goals
        have hfp : 0 < f := by omega
        have hsp : 0 < s := by omega
        have hfl : f < 18446744073709551616 := by omega
        have hsl : s < 18446744073709551616 := by omega
        have hN9 : (w8.alloc (.cells #[.int .u64 (f : Int), .int .u64 (s : Int)] 22 (0, 0))).heap[w8.heap.size]? = some (.cells #[.int .u64 (f : Int), .int .u64 (s : Int)] 22 (0, 0)) := World.alloc_heap_new w8 _
        have hK9 := below_new w8 (.cells #[.int .u64 (f : Int), .int .u64 (s : Int)] 22 (0, 0))
        have hA9 := hA8.below hK9
        have hB9 := hB8.below hK9
        have hW9 := hW8.trans (hK9.mono hW8.size)
        clear hK9
        generalize w8.alloc (.cells #[.int .u64 (f : Int), .int .u64 (s : Int)] 22 (0, 0)) = w9 at hN9 hA9 hB9 hW9 ⊢
        obtain ⟨G, hG⟩ : ∃ g, g = w8.heap.size := ⟨_, rfl⟩
        obtain ⟨S5, hS5⟩ : ∃ g, g = w5.heap.size := ⟨_, rfl⟩
        rw [← hG] at hN9 ⊢
        rw [← hS5] at hB9 ⊢
        clear hG hS5 hA hB hA5 hB5 hA6 hB6 hA7 hB7 hA8 hB8 hW7 hW8 hb5 hb6 hb7 hb8 hcm t0 t1 t2 t3 t4 ft s0 s1 s2 s3 s4 fs g1 g2 g3 g4 hz1 hz2 hu3 hSr
        go_loopw [125] (fun kv wi => ∃ k : Nat, kv = .int .i64 k ∧ k ≤ 2 ∧ Hid (0 < k → okE b e f = false) ∧ Hid (1 < k → okE b e s = false) ∧ Hid (wi.heap[G]? = some (.cells #[.int .u64 f, .int .u64 s] 22 (0, 0))) ∧ ScRow wi S (.slice A1 n1 c1) (.slice A2 n2 c2) (.slice A3 n3 c3) (.slice A4 n4 c4) ev (loN b) (heN b) (hiN b) (deN b) ∧
          ScRow wi S5 (.slice B1 m1 k1) (.slice B2 m2 k2) (.slice B3 m3 k3) (.slice B4 m4 k4) ev (loE b e) (heE b e) (hiE b e) (deE b e) ∧ Below w.heap.size w wi) (fun kv _ => 2 - (intOf kv).toNat)
        case atStart =>
          refine ⟨0, ?_, by omega, Lib.hid (fun h => by omega), Lib.hid (fun h => by omega), Lib.hid hN9, hA9, hB9, hW9⟩
          rfl
        case round =>
          clear hN9 hA9 hB9 hW9
          obtain ⟨k, rfl, hk, hk0, hk1, hN, hA, hB, hW⟩ := hrel
          have hc0 : wr.cell? ⟨G, 0, none⟩ = some (.int .u64 f) := cell_of_row wr G 0 _ _ _ hN.out
          have hc1 : wr.cell? ⟨G, 1, none⟩ = some (.int .u64 s) := cell_of_row wr G 1 _ _ _ hN.out
          have hfr : ∀ i, wr.frozen? ⟨G, i, none⟩ = false := fun i => frozen_of_row wr G i _ _ hN.out
          obtain ⟨t0, t1, t2, t3, t4, ft⟩ := five_cells hB.row
          rcases (by omega : k = 0 ∨ k = 1 ∨ k = 2) with rfl | rfl | rfl
          · have hho := Lib.hid (holds_E hf (by omega) (by omega) hB HEV.out hfp hfl)
            go_wp2_with (first | (go_at_call 102; refine hho.out.mono ?_; rintro e0 w10 ⟨rfl, hb10⟩) | fail)
            · have hcd := cand_fst HF.out (by assumption)
              have HCD := Lib.hid hcd
              have hW10 : Below w.heap.size w w10 := hW.trans (hb10.mono hW.size)
              clear hcd hN hA hB hW hc0 hc1 hfr t0 t1 t2 t3 t4 ft hho hb10
              go_loopw [16, 17] (fun dv xv W => ∃ d k : Nat, dv = .int .u64 d ∧ xv = .int .i64 (e + k) ∧ Hid (d * 10 ^ k = f) ∧ 0 < d ∧ d ≤ 100000000000000000 ∧ k ≤ 17 ∧ Below w.heap.size w W) (fun dv _ _ => (intOf dv).toNat)
              case atStart =>
                refine ⟨f, 0, rfl, ?_, Lib.hid (by simp), by omega, by omega, by omega, hW10⟩
                simp
              case round =>
                clear hW10
                obtain ⟨d, n, rfl, rfl, hdn, hd0, hdl, hnl, hWr⟩ := hrel
                have hdi : (0 : Int) < (d : Int) := by omega
                go_wp2_with fail
                · have hz : (d : Int) % 10 = 0 := by simpa using (by assumption : ((d : Int) % 10 == 0) = true)
                  have hst := strip_step hdn.out hz
                  have hpw := pow_small (d0 := f) (by omega) (by omega) hst
                  refine ⟨⟨d / 10, n + 1, rfl, ?_, Lib.hid hst, hpw.2, by omega, hpw.1, hWr⟩, ?_⟩
                  · congr 1
                    omega
                  · show ((d : Int) / 10).toNat < (d : Int).toNat
                    omega
                · have hz : ¬ d % 10 = 0 := by
                    intro h
                    have h2 : ((d : Int) % 10 == 0) = false := by assumption
                    have h3 : (d : Int) % 10 = 0 := by omega
                    rw [h3] at h2
                    exact absurd h2 (by decide)
                  rw [Exit.noGoto_ret]
                  go_ret3
                  exact ⟨⟨d, _, rfl, short_made hT hi HE.out hno.out HCD.out (by omega) (by omega) hdn.out hz htl hth, by omega⟩, hWr⟩
            · refine ⟨⟨1, rfl, by omega, Lib.hid (fun _ => by assumption), Lib.hid (fun h => by omega), Lib.hid ((hb10.block G (lt_of_heap hN.out)).trans hN.out), hA.below hb10, hB.below hb10, hW.trans (hb10.mono hW.size)⟩, by simp [intOf]⟩
          · have hho := Lib.hid (holds_E hf (by omega) (by omega) hB HEV.out hsp hsl)
            go_wp2_with (first | (go_at_call 102; refine hho.out.mono ?_; rintro e0 w10 ⟨rfl, hb10⟩) | fail)
            · have hcd := cand_snd HF.out HS.out (hk0.out (by omega)) (by assumption)
              have HCD := Lib.hid hcd
              have hW10 : Below w.heap.size w w10 := hW.trans (hb10.mono hW.size)
              clear hcd hN hA hB hW hc0 hc1 hfr t0 t1 t2 t3 t4 ft hho hb10
              go_loopw [16, 17] (fun dv xv W => ∃ d k : Nat, dv = .int .u64 d ∧ xv = .int .i64 (e + k) ∧ Hid (d * 10 ^ k = s) ∧ 0 < d ∧ d ≤ 100000000000000000 ∧ k ≤ 17 ∧ Below w.heap.size w W) (fun dv _ _ => (intOf dv).toNat)
              case atStart =>
                refine ⟨s, 0, rfl, ?_, Lib.hid (by simp), by omega, by omega, by omega, hW10⟩
                simp
              case round =>
                clear hW10
                obtain ⟨d, n, rfl, rfl, hdn, hd0, hdl, hnl, hWr⟩ := hrel
                have hdi : (0 : Int) < (d : Int) := by omega
                go_wp2_with fail
                · have hz : (d : Int) % 10 = 0 := by simpa using (by assumption : ((d : Int) % 10 == 0) = true)
                  have hst := strip_step hdn.out hz
                  have hpw := pow_small (d0 := s) (by omega) (by omega) hst
                  refine ⟨⟨d / 10, n + 1, rfl, ?_, Lib.hid hst, hpw.2, by omega, hpw.1, hWr⟩, ?_⟩
                  · congr 1
                    omega
                  · show ((d : Int) / 10).toNat < (d : Int).toNat
                    omega
                · have hz : ¬ d % 10 = 0 := by
                    intro h
                    have h2 : ((d : Int) % 10 == 0) = false := by assumption
                    have h3 : (d : Int) % 10 = 0 := by omega
                    rw [h3] at h2
                    exact absurd h2 (by decide)
                  rw [Exit.noGoto_ret]
                  go_ret3
                  exact ⟨⟨d, _, rfl, short_made hT hi HE.out hno.out HCD.out (by omega) (by omega) hdn.out hz htl hth, by omega⟩, hWr⟩
            · refine ⟨⟨2, rfl, by omega, Lib.hid (fun _ => hk0.out (by omega)), Lib.hid (fun _ => by assumption), Lib.hid ((hb10.block G (lt_of_heap hN.out)).trans hN.out), hA.below hb10, hB.below hb10, hW.trans (hb10.mono hW.size)⟩, by simp [intOf]⟩
          · have hcn := cand_none HF.out HS.out (hk0.out (by omega)) (hk1.out (by omega))
            have hi16 : ¬ i = 16 := fun h => by have := HFF.out h; rw [HF.out, hk0.out (by omega)] at this; exact absurd this (by decide)
            have HCN := Lib.hid hcn
            clear hcn
            go_wp2_with fail
            go_roundw
            case rel =>
              refine ⟨i + 1, ?_, by omega, Lib.hid (fun j hj => ?_), hA, hW⟩
              · have := HE.out
                congr 1
                omega
              · rcases (by omega : j < i ∨ j = i) with h | h
                · exact hno.out j h
                · subst h
                  rw [← HE.out]
                  exact HCN.out
            case measure => simp [intOf]; omega
  · have hnq0 : nq = 0 := by omega
    have hT : Top b r := by
      refine ⟨lg_low HMP.out HK.out hlg, ?_⟩
      apply Classical.byContradiction
      intro hc
      have hq : 0 < qE b (r + 1) := Nat.div_pos (by omega) (deE_pos b _)
      have h1 := HNQ.out
      have := ws_len_zero.1 (h1.symm.trans hnq0)
      omega
    have htl : -375 ≤ r := by omega
    have hth : r ≤ 376 := by omega
    clear hdm hby g1 g2 g3 g4 hz1 hz2 hA1 s0 s1 s2 s3 s4 fs hnq0
    obtain ⟨t, ht⟩ : ∃ t, t = r := ⟨_, rfl⟩
    rw [← ht] at hT htl hth
    rw [← ht]
    obtain ⟨S, hS⟩ : ∃ S, S = w1.heap.size := ⟨_, rfl⟩
    rw [← hS] at hA4 ⊢
    clear hS ht
    have hS4 : S < w4.heap.size := lt_of_heap hA4.row
    rw [show decide ((3 : Int) ≤ cl) = false from decide_eq_false (by omega)]
    try rw [show decide ((0 : Int) < (nq : Int)) = false from decide_eq_false (by omega)]
    try rw [show decide (0 < nq) = false from decide_eq_false (by omega)]
    go_step3
    go_wp2
    go_loopw [17] (fun e wr => ∃ i : Nat, e = .int .i64 (t - i) ∧ i ≤ 16 ∧ Hid (∀ j : Nat, j < i → candE b (t - j) = 0) ∧ ScRow wr S (.slice A1 n1 c1) (.slice A2 n2 c2) (.slice A3 n3 c3) (.slice A4 n4 c4) ev (loN b) (heN b) (hiN b) (deN b) ∧ Below w.heap.size w wr) (fun e _ => (intOf e + 1000).toNat)
    case atStart => exact ⟨0, by simp, by omega, Lib.hid (fun j hj => by omega), hA4, hB4⟩
    case round =>
      clear hA4 hB4 hS4
      obtain ⟨i, rfl, hi, hno, hA, hB⟩ := hrel
      obtain ⟨s0, s1, s2, s3, s4, fs⟩ := five_cells hA.row
      have hSr : S < wr.heap.size := lt_of_heap hA.row
      have hqw := hT.q_word hi
      have hqp := hT.q_pos i
      have hff : i = 16 → okE b (t - (i : Int)) (fstE b (t - (i : Int))) = true := fun h => by subst h; exact hT.found HMP.out
      have HFF := Lib.hid hff
      clear hff
      obtain ⟨e, he⟩ : ∃ e, e = t - (i : Int) := ⟨_, rfl⟩
      rw [← he] at hqw hqp HFF ⊢
      have hel : -391 ≤ e := by omega
      have heh : e ≤ 376 := by omega
      have HE := Lib.hid he
      clear he
      have hgt : (-400 : Int) < e := by omega
      have hby := Lib.hid (by_E hf hA e (by omega) (by omega))
      obtain ⟨q, hq⟩ : ∃ q, q = qE b e := ⟨_, rfl⟩
      have HQ := Lib.hid hq
      rw [← hq] at hqw hqp
      clear hq
      go_wp2_with (first
        | (go_at_call 97; refine hby.out.mono ?_; rintro e0 w5 ⟨⟨y1, y2, y3, y4, rfl, g1, g2, g3, g4⟩, hb5⟩; obtain ⟨B1, m1, k1, rfl⟩ := g1.form; obtain ⟨B2, m2, k2, rfl⟩ := g2.form; obtain ⟨B3, m3, k3, rfl⟩ := g3.form; obtain ⟨B4, m4, k4, rfl⟩ := g4.form; have hdm := Lib.hid (divmod_E hf (e := e) (by omega) (by omega) (g2.below (below_new w5 (.cells #[.slice B1 m1 k1, .slice B2 m2 k2, .slice B3 m3 k3, .slice B4 m4 k4, .bool ev] 129 (0, 0)))) (g4.below (below_new w5 _)));
            have hB5 := ScRow.new w5 (ends := ev) g1 g2 g3 g4; have hA5 := hA.below (hb5.trans ((below_new w5 (.cells #[.slice B1 m1 k1, .slice B2 m2 k2, .slice B3 m3 k3, .slice B4 m4 k4, .bool ev] 129 (0, 0))).mono hb5.size)))
        | (go_at_call 98; refine hdm.out.mono ?_; rintro e0 w6 ⟨⟨u1, u2, rfl, hz1, hz2⟩, hb6⟩; rw [← HQ.out] at hz1; have hA6 := hA5.below hb6; have hB6 := hB5.below hb6; have hwd := Lib.hid (word_E hz1 (by omega)); have hsh := Lib.hid (shl_E hf (by omega) (by omega) hz2))
        | (go_at_call 99; refine hwd.out.mono ?_; rintro e0 w7 ⟨rfl, hw7⟩; subst hw7)
        | (go_at_call 100; refine hsh.out.mono ?_; rintro e0 w7 ⟨⟨u3, rfl, hu3⟩, hb7⟩; have hA7 := hA6.below hb7; have hB7 := hB6.below hb7; have hW7 : Below w.heap.size w w7 := hB.trans (((below3 hb5 (below_new w5 (.cells #[.slice B1 m1 k1, .slice B2 m2 k2, .slice B3 m3 k3, .slice B4 m4 k4, .bool ev] 129 (0, 0))) hb6).trans (hb7.mono (Nat.le_trans (below3 hb5 (below_new w5 (.cells #[.slice B1 m1 k1, .slice B2 m2 k2, .slice B3 m3 k3, .slice B4 m4 k4, .bool ev] 129 (0, 0))) hb6).size (Nat.le_refl _)))).mono hB.size); have hcm := Lib.hid (cmp_E hu3 hB7.wd); obtain ⟨t0, t1, t2, t3, t4, ft⟩ := five_cells hB7.row)
        | fail)
      obtain ⟨p, hp⟩ : ∃ p, p = q + 1 := ⟨_, rfl⟩
      have hcase := round_cases b e q p HQ.out hp
      have ep : (q : Int) + 1 = p := by omega
      have epw : IntKind.u64.wrap ((q : Int) + 1) = p := by rw [IntKind.wrap_u64]; omega
      have hpl : p ≤ 100000000000000000 := by omega
      clear hp HQ
      rcases hcase with ⟨f, s, hf1, hf2, hF, hS, hc⟩ | ⟨f, s, hf1, hf2, hF, hS, hc, hq2⟩ | ⟨f, s, hf1, hf2, hF, hS, hc, hq2⟩ | ⟨f, s, hf1, hf2, hF, hS, hc⟩
      all_goals
        subst hf1 hf2
        rw [hc] at hcm
        have HF := Lib.hid hF
        have HS := Lib.hid hS
        clear hF hS hc hby hdm hwd hsh
        try have hq3 : ((s : Int) % 2 == 1) = true := beq_iff_eq.2 (by have := hq2; omega)
        try have hq4 : ((f : Int) % 2 == 1) = false := (by have := hq2; have h0 : (f : Int) % 2 = 0 := (by omega); rw [h0]; rfl)
        go_wp2_with (first
          | (go_at_call 101; refine hcm.out.mono ?_; rintro e0 w8 ⟨rfl, hb8⟩; have hA8 := hA7.below hb8; have hB8 := hB7.below hb8; have hW8 : Below w.heap.size w w8 := hW7.trans (hb8.mono hW7.size))
          | fail)
      all_goals
        have hfp : 0 < f := by omega
        have hsp : 0 < s := by omega
        have hfl : f < 18446744073709551616 := by omega
        have hsl : s < 18446744073709551616 := by omega
        have hN9 : (w8.alloc (.cells #[.int .u64 (f : Int), .int .u64 (s : Int)] 22 (0, 0))).heap[w8.heap.size]? = some (.cells #[.int .u64 (f : Int), .int .u64 (s : Int)] 22 (0, 0)) := World.alloc_heap_new w8 _
        have hK9 := below_new w8 (.cells #[.int .u64 (f : Int), .int .u64 (s : Int)] 22 (0, 0))
        have hA9 := hA8.below hK9
        have hB9 := hB8.below hK9
        have hW9 := hW8.trans (hK9.mono hW8.size)
        clear hK9
        generalize w8.alloc (.cells #[.int .u64 (f : Int), .int .u64 (s : Int)] 22 (0, 0)) = w9 at hN9 hA9 hB9 hW9 ⊢
        obtain ⟨G, hG⟩ : ∃ g, g = w8.heap.size := ⟨_, rfl⟩
        obtain ⟨S5, hS5⟩ : ∃ g, g = w5.heap.size := ⟨_, rfl⟩
        rw [← hG] at hN9 ⊢
        rw [← hS5] at hB9 ⊢
        clear hG hS5 hA hB hA5 hB5 hA6 hB6 hA7 hB7 hA8 hB8 hW7 hW8 hb5 hb6 hb7 hb8 hcm t0 t1 t2 t3 t4 ft s0 s1 s2 s3 s4 fs g1 g2 g3 g4 hz1 hz2 hu3 hSr
        go_loopw [125] (fun kv wi => ∃ k : Nat, kv = .int .i64 k ∧ k ≤ 2 ∧ Hid (0 < k → okE b e f = false) ∧ Hid (1 < k → okE b e s = false) ∧ Hid (wi.heap[G]? = some (.cells #[.int .u64 f, .int .u64 s] 22 (0, 0))) ∧ ScRow wi S (.slice A1 n1 c1) (.slice A2 n2 c2) (.slice A3 n3 c3) (.slice A4 n4 c4) ev (loN b) (heN b) (hiN b) (deN b) ∧
          ScRow wi S5 (.slice B1 m1 k1) (.slice B2 m2 k2) (.slice B3 m3 k3) (.slice B4 m4 k4) ev (loE b e) (heE b e) (hiE b e) (deE b e) ∧ Below w.heap.size w wi) (fun kv _ => 2 - (intOf kv).toNat)
        case atStart =>
          refine ⟨0, ?_, by omega, Lib.hid (fun h => by omega), Lib.hid (fun h => by omega), Lib.hid hN9, hA9, hB9, hW9⟩
          rfl
        case round =>
          clear hN9 hA9 hB9 hW9
          obtain ⟨k, rfl, hk, hk0, hk1, hN, hA, hB, hW⟩ := hrel
          have hc0 : wr.cell? ⟨G, 0, none⟩ = some (.int .u64 f) := cell_of_row wr G 0 _ _ _ hN.out
          have hc1 : wr.cell? ⟨G, 1, none⟩ = some (.int .u64 s) := cell_of_row wr G 1 _ _ _ hN.out
          have hfr : ∀ i, wr.frozen? ⟨G, i, none⟩ = false := fun i => frozen_of_row wr G i _ _ hN.out
          obtain ⟨t0, t1, t2, t3, t4, ft⟩ := five_cells hB.row
          rcases (by omega : k = 0 ∨ k = 1 ∨ k = 2) with rfl | rfl | rfl
          · have hho := Lib.hid (holds_E hf (by omega) (by omega) hB HEV.out hfp hfl)
            go_wp2_with (first | (go_at_call 102; refine hho.out.mono ?_; rintro e0 w10 ⟨rfl, hb10⟩) | fail)
            · have hcd := cand_fst HF.out (by assumption)
              have HCD := Lib.hid hcd
              have hW10 : Below w.heap.size w w10 := hW.trans (hb10.mono hW.size)
              clear hcd hN hA hB hW hc0 hc1 hfr t0 t1 t2 t3 t4 ft hho hb10
              go_loopw [16, 17] (fun dv xv W => ∃ d k : Nat, dv = .int .u64 d ∧ xv = .int .i64 (e + k) ∧ Hid (d * 10 ^ k = f) ∧ 0 < d ∧ d ≤ 100000000000000000 ∧ k ≤ 17 ∧ Below w.heap.size w W) (fun dv _ _ => (intOf dv).toNat)
              case atStart =>
                refine ⟨f, 0, rfl, ?_, Lib.hid (by simp), by omega, by omega, by omega, hW10⟩
                simp
              case round =>
                clear hW10
                obtain ⟨d, n, rfl, rfl, hdn, hd0, hdl, hnl, hWr⟩ := hrel
                have hdi : (0 : Int) < (d : Int) := by omega
                go_wp2_with fail
                · have hz : (d : Int) % 10 = 0 := by simpa using (by assumption : ((d : Int) % 10 == 0) = true)
                  have hst := strip_step hdn.out hz
                  have hpw := pow_small (d0 := f) (by omega) (by omega) hst
                  refine ⟨⟨d / 10, n + 1, rfl, ?_, Lib.hid hst, hpw.2, by omega, hpw.1, hWr⟩, ?_⟩
                  · congr 1
                    omega
                  · show ((d : Int) / 10).toNat < (d : Int).toNat
                    omega
                · have hz : ¬ d % 10 = 0 := by
                    intro h
                    have h2 : ((d : Int) % 10 == 0) = false := by assumption
                    have h3 : (d : Int) % 10 = 0 := by omega
                    rw [h3] at h2
                    exact absurd h2 (by decide)
                  rw [Exit.noGoto_ret]
                  go_ret3
                  exact ⟨⟨d, _, rfl, short_made hT hi HE.out hno.out HCD.out (by omega) (by omega) hdn.out hz htl hth, by omega⟩, hWr⟩
            · refine ⟨⟨1, rfl, by omega, Lib.hid (fun _ => by assumption), Lib.hid (fun h => by omega), Lib.hid ((hb10.block G (lt_of_heap hN.out)).trans hN.out), hA.below hb10, hB.below hb10, hW.trans (hb10.mono hW.size)⟩, by simp [intOf]⟩
          · have hho := Lib.hid (holds_E hf (by omega) (by omega) hB HEV.out hsp hsl)
            go_wp2_with (first | (go_at_call 102; refine hho.out.mono ?_; rintro e0 w10 ⟨rfl, hb10⟩) | fail)
            · have hcd := cand_snd HF.out HS.out (hk0.out (by omega)) (by assumption)
              have HCD := Lib.hid hcd
              have hW10 : Below w.heap.size w w10 := hW.trans (hb10.mono hW.size)
              clear hcd hN hA hB hW hc0 hc1 hfr t0 t1 t2 t3 t4 ft hho hb10
              go_loopw [16, 17] (fun dv xv W => ∃ d k : Nat, dv = .int .u64 d ∧ xv = .int .i64 (e + k) ∧ Hid (d * 10 ^ k = s) ∧ 0 < d ∧ d ≤ 100000000000000000 ∧ k ≤ 17 ∧ Below w.heap.size w W) (fun dv _ _ => (intOf dv).toNat)
              case atStart =>
                refine ⟨s, 0, rfl, ?_, Lib.hid (by simp), by omega, by omega, by omega, hW10⟩
                simp
              case round =>
                clear hW10
                obtain ⟨d, n, rfl, rfl, hdn, hd0, hdl, hnl, hWr⟩ := hrel
                have hdi : (0 : Int) < (d : Int) := by omega
                go_wp2_with fail
                · have hz : (d : Int) % 10 = 0 := by simpa using (by assumption : ((d : Int) % 10 == 0) = true)
                  have hst := strip_step hdn.out hz
                  have hpw := pow_small (d0 := s) (by omega) (by omega) hst
                  refine ⟨⟨d / 10, n + 1, rfl, ?_, Lib.hid hst, hpw.2, by omega, hpw.1, hWr⟩, ?_⟩
                  · congr 1
                    omega
                  · show ((d : Int) / 10).toNat < (d : Int).toNat
                    omega
                · have hz : ¬ d % 10 = 0 := by
                    intro h
                    have h2 : ((d : Int) % 10 == 0) = false := by assumption
                    have h3 : (d : Int) % 10 = 0 := by omega
                    rw [h3] at h2
                    exact absurd h2 (by decide)
                  rw [Exit.noGoto_ret]
                  go_ret3
                  exact ⟨⟨d, _, rfl, short_made hT hi HE.out hno.out HCD.out (by omega) (by omega) hdn.out hz htl hth, by omega⟩, hWr⟩
            · refine ⟨⟨2, rfl, by omega, Lib.hid (fun _ => hk0.out (by omega)), Lib.hid (fun _ => by assumption), Lib.hid ((hb10.block G (lt_of_heap hN.out)).trans hN.out), hA.below hb10, hB.below hb10, hW.trans (hb10.mono hW.size)⟩, by simp [intOf]⟩
          · have hcn := cand_none HF.out HS.out (hk0.out (by omega)) (hk1.out (by omega))
            have hi16 : ¬ i = 16 := fun h => by have := HFF.out h; rw [HF.out, hk0.out (by omega)] at this; exact absurd this (by decide)
            have HCN := Lib.hid hcn
            clear hcn
            go_wp2_with fail
            go_roundw
            case rel =>
              refine ⟨i + 1, ?_, by omega, Lib.hid (fun j hj => ?_), hA, hW⟩
              · have := HE.out
                congr 1
                omega
              · rcases (by omega : j < i ∨ j = i) with h | h
                · exact hno.out j h
                · subst h
                  rw [← HE.out]
                  exact HCN.out
            case measure => simp [intOf]; omega
end Go.Proofs.YtjdelpelnjhidaaGreatDoor.Pl
