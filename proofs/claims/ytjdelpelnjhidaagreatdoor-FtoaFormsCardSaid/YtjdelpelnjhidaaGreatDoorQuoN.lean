/- quot: long division, walked. -/
import Derived.Test.YtjdelpelnjhidaaGreatDoorQuoL
import Derived.Deep.DeepMust
import Derived.Deep.RegionLaw
namespace Go.Proofs.YtjdelpelnjhidaaGreatDoor.Pl
open Go.RowKit
/-- what stands at every label of the long division: m words of the quotient are still to come -/
structure LInv (gu gv gq n L : Nat) (V : List Nat) (N : Nat) (w0 : World) (m : Nat) (U Q : List Nat) (w : World) : Prop where
  hU : Ar w gu 22 U
  hV : Ar w gv 22 V
  hQ : Ar w gq 22 (List.replicate m 0 ++ Q)
  lU : U.length = L + 1
  wU : W64 U
  lQ : m + Q.length = L - n + 1
  wQ : W64 Q
  eq : N = val U + 18446744073709551616 ^ m * val Q * val V
  lt : val U < 18446744073709551616 ^ m * val V
  below : Below w0.heap.size w0 w
/-- a guess: it is not below the quotient, and its rest is told -/
structure Guess (n : Nat) (V P : List Nat) (g r : Nat) : Prop where
  hg : g < 18446744073709551616
  up : val P / val V ≤ g
  tel : ∃ v1 u2 u1, V[n - 1]? = some v1 ∧ P[n]? = some u2 ∧ P[n - 1]? = some u1 ∧ g * v1 + r = 18446744073709551616 * u2 + u1
def muL (l : Nat) (a : Act) (_ : World) : Nat :=
  (intOf (a.tmps.getD 15 undef) + 1).toNat * 73786976294838206464 + (if l = 1 then 73786976294838206463 else if l = 3 then 2 * (intOf (a.tmps.getD 6 undef)).toNat + 2 else if l = 2 then 1 else 0)
/-- the piece of a list at a place -/
def pc (n : Nat) (U : List Nat) (j : Nat) : List Nat := (U.drop j).take (n + 1)
/-- what stands at each label: at 1 the next word's beginning, at 3 a guess to be tried, at 2 one that is right or one too great, at 0 the end -/
def JL (xs ys : Value) (s n L : Nat) (V : List Nat) (N : Nat) (w0 : World) (l : Nat) (a : Act) (w : World) : Prop :=
  ∃ (gu gv gq m : Nat) (U Q : List Nat) (t6 t7 t8 t9 t10 : Value), w0.heap.size ≤ gv ∧ gv < gu ∧ gu < gq ∧ LInv gu gv gq n L V N w0 m U Q w ∧
    a = frL xs ys undef undef (.slice none 0 0) (.slice none 0 0) t6 t7 t8 t9 t10 (.int .i64 n) (.int .i64 s) (.slice (some ⟨gv, 0, none⟩) n n) (.slice (some ⟨gu, 0, none⟩) (L + 1) (L + 1)) (.int .i64 ((m : Int) - 1)) (.slice (some ⟨gq, 0, none⟩) (L - n + 1) (L - n + 1)) (tailL a) ∧
    (l = 1 ∨ (l = 0 ∧ m = 0) ∨ (l = 3 ∧ ∃ j g r, m = j + 1 ∧ t6 = .int .u64 (g : Nat) ∧ t7 = .int .u64 (r : Nat) ∧ r < 18446744073709551616 ∧ Guess n V (pc n U j) g r) ∨
      (l = 2 ∧ ∃ j g, m = j + 1 ∧ t6 = .int .u64 (g : Nat) ∧ g < 18446744073709551616 ∧ val (pc n U j) / val V ≤ g ∧ g ≤ val (pc n U j) / val V + 1))
theorem JL.label {xs ys : Value} {s n L : Nat} {V : List Nat} {N : Nat} {w0 : World} {l : Nat} {a : Act} {w : World} (h : JL xs ys s n L V N w0 l a w) : l = 0 ∨ l = 1 ∨ l = 2 ∨ l = 3 := by
  obtain ⟨_, _, _, _, _, _, _, _, _, _, _, _, _, _, _, _, h⟩ := h
  rcases h with h | ⟨h, _⟩ | ⟨h, _⟩ | ⟨h, _⟩ <;> omega
theorem LInv.next {gu gv gq n L : Nat} {V : List Nat} {N : Nat} {w0 : World} {j : Nat} {pre P post Q : List Nat} {wr w' : World} (h : LInv gu gv gq n L V N w0 (j + 1) (pre ++ P ++ post) Q wr) {P2 : List Nat} {q : Nat} (hl : pre.length = j) (hP2 : P2.length = P.length) (hw2 : W64 P2) (hval : val P2 = val P % val V) (hpost : val post = 0) (hpre : val pre < 18446744073709551616 ^ j) (hvU : val (pre ++ P ++ post) = val pre + 18446744073709551616 ^ j * val P) (hwp : W64 pre) (hwq : W64 post)
    (hq : q = val P / val V) (hqw : q < 18446744073709551616) (hU' : Ar w' gu 22 (pre ++ P2 ++ post)) (hV' : Ar w' gv 22 V) (hQ' : Ar w' gq 22 (List.replicate j 0 ++ q :: Q)) (hb : Below w0.heap.size w0 w') : LInv gu gv gq n L V N w0 j (pre ++ P2 ++ post) (q :: Q) w' := by
  have hV0 : 0 < val V := by
    rcases Nat.eq_zero_or_pos (val V) with e | e
    · have := h.lt; rw [e, Nat.mul_zero] at this; omega
    · exact e
  have hm := Nat.mod_lt (val P) hV0
  have hdm := Nat.div_add_mod (val P) (val V)
  rw [← hval] at hm hdm
  rw [← hq] at hdm
  have hvU2 : val (pre ++ P2 ++ post) = val pre + 18446744073709551616 ^ j * val P2 := by
    rw [val_append, val_append, hpost, hl]; omega
  refine ⟨hU', hV', hQ', ?_, (hwp.append hw2).append hwq, ?_, W64.cons hqw h.wQ, ?_, ?_, hb⟩
  · have := h.lU
    simp only [List.length_append] at this ⊢
    omega
  · have := h.lQ; rw [List.length_cons]; omega
  · rw [h.eq, hvU, hvU2, ← hdm, val, Nat.pow_succ]
    grind
  · rw [hvU2]
    have h1 := Nat.mul_le_mul_left (18446744073709551616 ^ j) (show val P2 + 1 ≤ val V from hm)
    rw [Nat.mul_add, Nat.mul_one] at h1
    omega
theorem pc_eq {n j : Nat} {pre P post : List Nat} (hl : pre.length = j) (hP : P.length = n + 1) : pc n (pre ++ P ++ post) j = P := by
  unfold pc
  rw [List.append_assoc, List.drop_left' hl, ← hP, List.take_left']
  rfl
theorem val_take_lt {U : List Nat} {n : Nat} (h : val U < 18446744073709551616 ^ n) : val (U.take n) = val U := by
  by_cases hn : n ≤ U.length
  · have h1 := val_take_drop U n hn
    rcases Nat.eq_zero_or_pos (val (U.drop n)) with h2 | h2
    · rw [h2] at h1; omega
    · have := Nat.mul_le_mul_left (18446744073709551616 ^ n) (show 1 ≤ val (U.drop n) from h2)
      omega
  · rw [List.take_of_length_le (by omega)]
theorem below_drewW {B : Nat} {w w2 : World} (h : Below B w.drew w2) : Below B w w2 := ⟨h.os, h.tape, h.output, h.size, h.block⟩
theorem guess_tell {n : Nat} {V P : List Nat} {g r v1 v0 u0 : Nat} (hVn : V.length = n) (hPn : P.length = n + 1) (h2 : 2 ≤ n) (wV : W64 V) (wP : W64 P) (hG : Guess n V P g r) (hv1 : V[n - 1]? = some v1) (h1 : 1 ≤ v1) (hv0 : V[n - 2]? = some v0) (hu0 : P[n - 2]? = some u0) :
    (g * v0 ≤ 18446744073709551616 * r + u0 → g ≤ val P / val V + 1) ∧ (18446744073709551616 * r + u0 < g * v0 → val P / val V < g) := by
  obtain ⟨v1', v0', e1, e0, eV⟩ := top2 hVn h2
  rw [hv1] at e1; cases e1
  rw [hv0] at e0; cases e0
  obtain ⟨u2, u1, u0', f2, f1, f0, eP⟩ := top3 hPn h2
  rw [hu0] at f0; cases f0
  obtain ⟨v1', u2', u1', k1, k2, k3, htel⟩ := hG.tel
  rw [hv1] at k1; cases k1
  rw [f2] at k2; cases k2
  rw [f1] at k3; cases k3
  have hl1 := val_lt (wP.take (n - 2))
  rw [List.length_take, Nat.min_eq_left (by omega)] at hl1
  have hl2 := val_lt (wV.take (n - 2))
  rw [List.length_take, Nat.min_eq_left (by omega)] at hl2
  exact ⟨fun h => kn_up eP eV hl2 hG.hg (by omega) (kn_done htel h), fun h => kn_dec eP eV hl1 (kn_more htel h)⟩
theorem Guess.dec {n : Nat} {V P : List Nat} {g r v1 : Nat} (hG : Guess n V P g r) (hv1 : V[n - 1]? = some v1) (hlt : val P / val V < g) : Guess n V P (g - 1) (r + v1) := by
  refine ⟨Nat.lt_of_le_of_lt (Nat.sub_le _ _) hG.hg, Nat.le_sub_one_of_lt hlt, ?_⟩
  obtain ⟨v1', u2', u1', k1, k2, k3, htel⟩ := hG.tel
  rw [hv1] at k1; cases k1
  refine ⟨v1, u2', u1', hv1, k2, k3, ?_⟩
  obtain ⟨g', rfl⟩ : ∃ g', g = g' + 1 := ⟨g - 1, (Nat.sub_add_cancel (Nat.lt_of_le_of_lt (Nat.zero_le _) hlt)).symm⟩
  rw [Nat.add_sub_cancel, ← htel, Nat.add_mul, Nat.one_mul]
  omega
theorem LInv.world {gu gv gq n L : Nat} {V : List Nat} {N : Nat} {w0 : World} {m : Nat} {U Q : List Nat} {wr W : World} (h : LInv gu gv gq n L V N w0 m U Q wr) (hb : Below wr.heap.size wr W) : LInv gu gv gq n L V N w0 m U Q W :=
  ⟨h.hU.below hb h.hU.lt, h.hV.below hb h.hV.lt, h.hQ.below hb h.hQ.lt, h.lU, h.wU, h.lQ, h.wQ, h.eq, h.lt, h.below.trans (hb.mono h.below.size)⟩
theorem top_le {n : Nat} {V P : List Nat} {u2 v1 : Nat} (hVn : V.length = n) (hPn : P.length = n + 1) (h2 : 2 ≤ n) (wV : W64 V) (hP : val P < 18446744073709551616 * val V) (hv1 : V[n - 1]? = some v1) (hu2 : P[n]? = some u2) : u2 ≤ v1 := by
  obtain ⟨v1', v0, e1, e0, eV⟩ := top2 hVn h2
  rw [hv1] at e1; cases e1
  obtain ⟨u2', u1, u0, f2, f1, f0, eP⟩ := top3 hPn h2
  rw [hu2] at f2; cases f2
  have hv0 := wV.get e0
  have hl2 := val_lt (wV.take (n - 2))
  rw [List.length_take, Nat.min_eq_left (by omega)] at hl2
  generalize 18446744073709551616 ^ (n - 2) = Z at *
  generalize hD : 18446744073709551616 * v1 + v0 = D at *
  generalize hT : 18446744073709551616 * (18446744073709551616 * u2 + u1) + u0 = T at *
  apply Classical.byContradiction
  intro hc
  have h3 : (D + 1) * 18446744073709551616 ≤ T := by omega
  have h4 := Nat.mul_le_mul_right Z h3
  have h6 : (D + 1) * 18446744073709551616 * Z = 18446744073709551616 * (D * Z) + 18446744073709551616 * Z := by grind
  omega
theorem guess_full {n : Nat} {V P : List Nat} {u1 v1 : Nat} (hP : val P < 18446744073709551616 * val V) (hv1 : V[n - 1]? = some v1) (hu2 : P[n]? = some v1) (hu1 : P[n - 1]? = some u1) : Guess n V P 18446744073709551615 (u1 + v1) := by
  refine ⟨by decide, ?_, v1, v1, u1, hv1, hu2, hu1, by omega⟩
  have : val P / val V < 18446744073709551616 := Nat.div_lt_of_lt_mul (by rw [Nat.mul_comm]; exact hP)
  omega
theorem guess_div {n : Nat} {V P : List Nat} {u2 u1 v1 g r : Nat} (hVn : V.length = n) (hPn : P.length = n + 1) (h2 : 2 ≤ n) (wP : W64 P) (hv1 : V[n - 1]? = some v1) (hu2 : P[n]? = some u2) (hu1 : P[n - 1]? = some u1) (h : 18446744073709551616 * u2 + u1 = g * v1 + r) (hr : r < v1) (hg : g < 18446744073709551616) : Guess n V P g r := by
  refine ⟨hg, ?_, v1, u2, u1, hv1, hu2, hu1, h.symm⟩
  obtain ⟨v1', v0, e1, e0, eV⟩ := top2 hVn h2
  rw [hv1] at e1; cases e1
  obtain ⟨u2', u1', u0, f2, f1, f0, eP⟩ := top3 hPn h2
  rw [hu2] at f2; cases f2
  rw [hu1] at f1; cases f1
  have hl1 := val_lt (wP.take (n - 2))
  rw [List.length_take, Nat.min_eq_left (by omega)] at hl1
  have h3 := kn_first rfl rfl eP eV hl1 (by omega) (wP.get f0)
  rwa [(div_of (by omega) h hr).1] at h3
theorem addw_eq (a b c : Nat) (w : World) (ha : a < 18446744073709551616) (hb : b < 18446744073709551616) (hc : c ≤ 1) : Calls Tryz.prog 132 #[.int .u64 a, .int .u64 b, .int .u64 c] w fun e w' => e = .returned (.tuple #[.int .u64 ((a + b + c) % 18446744073709551616 : Nat), .int .u64 ((a + b + c) / 18446744073709551616 : Nat)]) ∧ w' = w := by
  refine (addw_any a b c w ha hb hc).mono ?_
  rintro e w' ⟨s, co, rfl, h, hs, hco, rfl⟩
  rw [show (a + b + c) % 18446744073709551616 = s by omega, show (a + b + c) / 18446744073709551616 = co by omega]
  exact ⟨rfl, rfl⟩
theorem below_drewNW {w w2 : World} {k : Nat} (h : Below (w.drewN k).heap.size (w.drewN k) w2) : Below w.heap.size w w2 := ⟨h.os, h.tape, h.output, h.size, h.block⟩
theorem mod_fix {P2 P' Vv PP M c : Nat} (h : P2 + M * c = P' + Vv) (h2 : PP % Vv + M = P' + Vv) (hP2 : P2 < M) (hr : PP % Vv < M) : P2 = PP % Vv := by
  have h3 : P2 + M * c = PP % Vv + M := by omega
  rcases Nat.lt_trichotomy c 1 with hc | hc | hc
  · have : c = 0 := by omega
    subst this; omega
  · subst hc; omega
  · have := Nat.mul_le_mul_left M (show 2 ≤ c from hc)
    omega
set_option maxRecDepth 100000 in
set_option maxHeartbeats 40000000 in
theorem long_any (u v : Value) (x y : List Nat) (n s L : Nat) (w : World) (hx : Wx w u x) (hy : Wx w v y) (hyn : y.length = n) (h2 : 2 ≤ n) (hxl : x.length = L) (hnl : n ≤ L) (hL : L ≤ 1000000) (top : Nat) (ht : y[n - 1]? = some top) (ht0 : top ≠ 0) (hs : s = 64 - bl top) (V : List Nat) (hVV : V = shlL s 0 y) :
    Calls Tryz.prog 116 #[u, v] w fun e w' => (∃ z1 z2, e = .returned (.tuple #[z1, z2]) ∧ Wx w' z1 (ws (val x / val y)) ∧ Wx w' z2 (ws (val x % val y))) ∧ Below w.heap.size w w' := by
  have hxw := hx.1
  have hyw := hy.1
  have htw := hyw.get ht
  have htl : bl top ≤ 64 := bl_le_iff.2 htw
  have htp := bl_pos ht0
  have hN := norm_lt ht0 htw
  rw [← hs] at hN
  have hs64 : s < 64 := by omega
  obtain ⟨A, c, rfl, hc, hcx⟩ := hx.view
  obtain ⟨A', c', rfl, hc', hcy⟩ := hy.view
  rw [hxl] at hc hx
  rw [hyn] at hc' hy
  rw [hxl, hyn]
  obtain ⟨p2, o2, rfl, hp2, hcell⟩ := hcy (by intro e; subst e; simp at ht)
  have hct := hcell (n - 1) top ht
  have HLN := fun w => Lib.hid (len_any top w htw)
  have HS := Lib.hid hs
  have hsi : IntKind.i64.wrap (64 - ((bl top : Nat) : Int)) = (s : Int) := (IntWalk.i64_in _ (by omega)).trans (by omega)
  have H1 := fun w hy => Lib.hid (shlq_any (.slice (some ⟨p2, o2, none⟩) n c') y s n w hy (by omega) hs64 (.inl hyn.symm))
  have H2 := fun w hx => Lib.hid (shlq_any (.slice A L c) x s (L + 1) w hx (by omega) hs64 (.inr (by rw [hxl])))
  simp only [Int.natCast_succ] at H2
  have hVn : V.length = n := by rw [hVV, shlL_length, hyn]
  have hVw : W64 V := by rw [hVV]; exact shlL_w (by omega) (Nat.two_pow_pos s) hyw
  have hVl : val V < 18446744073709551616 ^ n := by rw [← hVn]; exact val_lt hVw
  have htop : 18446744073709551616 ^ (n - 1) * top ≤ val y ∧ val y < 18446744073709551616 ^ (n - 1) * (top + 1) := by
    have h1 := val_take_succ y (n - 1) top ht
    rw [show n - 1 + 1 = n by omega, ← hyn, List.take_length, hyn] at h1
    have h3 := val_lt (hyw.take (n - 1))
    rw [List.length_take, Nat.min_eq_left (by omega)] at h3
    constructor
    · omega
    · rw [Nat.mul_add, Nat.mul_one]; omega
  have hVal : val V = val y * 2 ^ s := by
    have h1 := shlL_val (n := s) (by omega) 0 y
    rw [← hVV, hyn, Nat.add_zero] at h1
    have h2 : val y * 2 ^ s < 18446744073709551616 ^ n := by
      have h3 : top + 1 ≤ 2 ^ (64 - s) := by
        have := hN.1
        have h4 : top * 2 ^ s < 2 ^ (64 - s) * 2 ^ s := by rw [two64 (by omega)]; exact this
        exact Nat.lt_of_mul_lt_mul_right h4
      have h5 : val y < 18446744073709551616 ^ (n - 1) * 2 ^ (64 - s) := Nat.lt_of_lt_of_le htop.2 (Nat.mul_le_mul_left _ h3)
      have h6 := Nat.mul_lt_mul_of_pos_right h5 (Nat.two_pow_pos s)
      rw [Nat.mul_assoc, two64 (by omega), ← Nat.pow_succ, show (n - 1).succ = n by omega] at h6
      exact h6
    rcases Nat.eq_zero_or_pos (shlC s 0 y) with h7 | h7
    · rw [h7] at h1; omega
    · have := Nat.mul_le_mul_left (18446744073709551616 ^ n) (show 1 ≤ shlC s 0 y from h7)
      omega
  have hylow : 18446744073709551616 ^ (n - 1) ≤ val y := by
    have := Nat.mul_le_mul_left (18446744073709551616 ^ (n - 1)) (show 1 ≤ top by omega)
    omega
  have HVal := Lib.hid hVal
  have HYL := Lib.hid hylow
  clear hVal htop hylow
  have HVn := Lib.hid hVn
  have HVw := Lib.hid hVw
  have HVl := Lib.hid hVl
  have HVV := Lib.hid hVV
  clear hVn hVw hVl hVV
  have HXL := Lib.hid hxl
  have HYN := Lib.hid hyn
  have hn1 : ((n : Int) - 1).toNat = n - 1 := by omega
  clear hxl hyn hs hcell hcx
  go_enter Tryz.func116, Tryz.ntmps116
  go_wp2_with fail
  refine wp_scope_four (JL (.slice A L c) (.slice (some ⟨p2, o2, none⟩) n c') s n L V (val x * 2 ^ s) w) muL (fun l a w h => h.label) ?_ ?_ ?_ ?_ ?_
  · rintro a wr ⟨gu, gv, gq, m, U, Q, t6, t7, t8, t9, t10, hg0, hg1, hg2, hI, ha, hcase⟩
    rcases hcase with h | ⟨_, rfl⟩ | ⟨h, _⟩ | ⟨h, _⟩
    · omega
    rotate_left
    · omega
    · omega
    obtain ⟨uu, huu⟩ : ∃ uu, uu = tailL a := ⟨_, rfl⟩
    rw [← huu] at ha
    subst ha
    clear huu
    have hUlt := hI.lt
    rw [Nat.pow_zero, Nat.one_mul] at hUlt
    have hUn : val U < 18446744073709551616 ^ n := Nat.lt_trans hUlt HVl.out
    have hlQ := hI.lQ
    have hlU := hI.lU
    rw [Nat.zero_add] at hlQ
    have heq := hI.eq
    rw [Nat.pow_zero, Nat.one_mul, Nat.add_comm] at heq
    obtain ⟨hd1, hd2⟩ := div_of (by omega) heq hUlt
    rw [HVal.out, Nat.mul_div_mul_right _ _ (Nat.two_pow_pos s)] at hd1
    rw [HVal.out, Nat.mul_mod_mul_right] at hd2
    have hus : val U / 2 ^ s = val x % val y := by rw [← hd2, Nat.mul_div_cancel _ (Nat.two_pow_pos s)]
    have hwxQ : Wx wr (.slice (some ⟨gq, 0, none⟩) (L - n + 1) (L - n + 1)) Q := hI.hQ.wx0 hI.wQ hlQ.symm (by simp; omega)
    have hwxU : Wx wr (.slice (some ⟨gu, 0, none⟩) n (L + 1)) (U.take n) := by
      have := hI.hU.wx hI.wU 0 n (L + 1) (by omega) (by omega) (by omega)
      rwa [List.drop_zero] at this
    have hvt : val (U.take n) = val U := val_take_lt hUn
    have HNM := fun W (hb : Below wr.heap.size wr W) => Lib.hid (norm_wx _ Q W (hwxQ.below hb) (by omega))
    have HSR := fun W (hb : Below wr.heap.size wr W) => Lib.hid (shrq_any _ (U.take n) s W (hwxU.below hb) (by rw [List.length_take]; omega) hs64)
    rw [← hd1] at HNM
    rw [hvt, hus] at HSR
    have hnU : n ≤ L + 1 := by omega
    have hnU2 : (n : Int) ≤ (L : Int) + 1 := by omega
    have hbel := hI.below
    refine ⟨_, rfl, ?_⟩
    simp only [frL]
    go_wp2_with fail
    go_region_law (first
      | ((try go_simp); go_at_call 114; refine (HNM _ (by first | exact below_drewW hbs | exact drewN_below _ 1)).out.mono ?_; rintro e W1 ⟨⟨z1, rfl, hz1⟩, hb1⟩)
      | ((try go_simp); go_at_call 137; refine (HSR _ (by first | exact below_drewW hb1 | exact drewN_below _ _)).out.mono ?_; rintro e W2 ⟨⟨z2, rfl, hz2⟩, hbs⟩))
    go_wp2_with fail
    simp only [jumpsTo]
    go_ret2
    refine ⟨⟨z1, z2, rfl, ?_, hz2⟩, ?_⟩
    · exact hz1.below hbs
    · exact hbel.trans (((below_drewW hb1).trans (hbs.mono hb1.size)).mono hbel.size)
  · rintro a wr ⟨gu, gv, gq, m, U, Q, t6, t7, t8, t9, t10, hg0, hg1, hg2, hI, ha, hcase⟩
    rcases hcase with h | ⟨h, _⟩ | ⟨h, _⟩ | ⟨_, j, g, rfl, rfl, hg, hq1, hq2⟩
    · omega
    · omega
    · omega
    obtain ⟨uu, huu⟩ : ∃ uu, uu = tailL a := ⟨_, rfl⟩
    rw [← huu] at ha
    subst ha
    clear huu
    have hVn := HVn.out
    have hVl := HVl.out
    obtain ⟨pre, P, post, hUe, hpl, hPl, hwp, hwP, hwq, hpost, hvU, hpre, hvP⟩ := piece (n := n) hI.wU (j := j) (M := val V) (by have := hI.lU; have := hI.lQ; omega) hVl hI.lt
    subst hUe
    rw [pc_eq hpl hPl] at hq1 hq2
    have hj1 := hI.lQ
    have hj2 : j + n ≤ L := by omega
    have hj3 : ¬ L + 1 = j := by omega
    have hlen : j + n + 1 - j = n + 1 := by omega
    obtain ⟨g1, eg1, hg1'⟩ : ∃ g1 : Nat, IntKind.u64.wrap ((g : Int) - 1) = (g1 : Int) ∧ (1 ≤ g → g1 = g - 1) := ⟨(IntKind.u64.wrap ((g : Int) - 1)).toNat, by simp only [IntKind.wrap_u64]; omega, by simp only [IntKind.wrap_u64]; omega⟩
    have HG1 := Lib.hid hg1'
    clear hg1'
    have hcap : n + 1 ≤ L + 1 - j := by omega
    have hV0 : 0 < val V := by
      rcases Nat.eq_zero_or_pos (val V) with e | e
      · have := hI.lt; rw [e, Nat.mul_zero] at this; omega
      · exact e
    have hqB := Lib.hid (show val P / val V < 18446744073709551616 from Nat.div_lt_of_lt_mul (by rw [Nat.mul_comm]; exact hvP))
    have hmB := Lib.hid (show val P % val V < 18446744073709551616 ^ (n + 1) by
      have h1 := Nat.mod_lt (val P) hV0
      have h2 : 18446744073709551616 ^ n ≤ 18446744073709551616 ^ (n + 1) := Nat.pow_le_pow_right (by decide) (by omega)
      omega)
    have hkt : Hid (∀ (P' : List Nat) (br : Nat), val P' + g * val V = val P + 18446744073709551616 ^ (n + 1) * br → P'.length = n + 1 → W64 P' → br ≤ 1 → (br = 0 → g = val P / val V ∧ val P' = val P % val V) ∧ (br = 1 → g = val P / val V + 1 ∧ val P % val V + 18446744073709551616 ^ (n + 1) = val P' + val V)) :=
      Lib.hid fun P' br h hl hw hb => kn_took hV0 h (by have := val_lt hw; rwa [hl] at this) hb hq1 hq2
    have HU := hI.hU
    have HV := hI.hV
    have HQ := hI.hQ
    have hgq : (List.replicate (j + 1) 0 ++ Q)[j]? = some 0 := by rw [List.getElem?_append_left (by simp), List.getElem?_replicate, if_pos (by omega)]
    refine ⟨_, rfl, ?_⟩
    simp only [frL]
    go_wp2_with (first
      | (go_at_call 135; refine (take_any gu 22 j n (L + 1 - j) n gv pre P post V g _ HU hwP hpl hPl hcap (by omega) HV HVw.out hVn (by omega) hg).mono ?_; rintro e W ⟨br, P', rfl, hbr, hP'l, hP'w, hUW, hval, hbut⟩; have hVW := hbut.ar HV (by omega); have hQW := hbut.ar HQ (by omega); have hcq := hQW.cell hgq; have hfq := hQW.free j)
      | (go_at_call 136; refine (give_any gu 22 j n (L + 1 - j) n gv pre P' post V _ hUW hP'w hpl hP'l hcap (by omega) hVW HVw.out hVn (by omega)).mono ?_; rintro e W2 ⟨c2, P2, rfl, hl2, hw2, hU2, hv2, hbut2⟩; have hVW2 := hbut2.ar hVW (by omega); have hQW2 := hbut2.ar hQW (by omega); have hcq2 := hQW2.cell hgq; have hfq2 := hQW2.free j)
      | fail)
    · have hb1 : br = 1 := by
        have h : (br == 1) = true := by assumption
        simpa using h
      obtain ⟨hge, hmod⟩ := (hkt.out P' br hval hP'l hP'w hbr).2 hb1
      have hg1e : g1 = val P / val V := by rw [HG1.out (by rw [hge]; exact Nat.succ_le_succ (Nat.zero_le _)), hge, Nat.add_sub_cancel]
      go_step3
      refine ⟨⟨gu, gv, gq, j, _, _, _, _, _, _, _, hg0, hg1, hg2, hI.next (P2 := P2) (q := g1) hpl (by rw [hl2, hPl]) hw2 ?_ hpost hpre hvU hwp hwq hg1e (by rw [hg1e]; exact hqB.out) ?_ ?_ ?_ ?_, rfl, .inl rfl⟩, ?_⟩
      · exact mod_fix hv2 hmod (by have := val_lt hw2; rwa [hl2] at this) (hmB.out)
      · exact (But.set W2 j _).ar hU2 (by omega)
      · exact (But.set W2 j _).ar hVW2 (by omega)
      · have := hQW2.set j g1
        rwa [set_back] at this
      · exact (But.set W2 j _).below (by omega) (by have := hbut.size; have := hbut2.size; have := hI.below.size; omega) (hbut2.below (by omega) (by have := hbut.size; have := hI.below.size; omega) (hbut.below (by omega) hI.below.size hI.below))
      · simp only [muL, intOf]
        simp
        omega
    · have hb1 : br = 0 := by
        have h : (br == 1) = false := by assumption
        have h2 : ¬ br = 1 := by simpa using h
        omega
      obtain ⟨hge, hmod⟩ := (hkt.out P' br hval hP'l hP'w hbr).1 hb1
      go_step3
      refine ⟨⟨gu, gv, gq, j, _, _, _, _, _, _, _, hg0, hg1, hg2, hI.next (P2 := P') (q := g) hpl (by rw [hP'l, hPl]) hP'w hmod hpost hpre hvU hwp hwq hge (by rw [hge]; exact hqB.out) ?_ ?_ ?_ ?_, rfl, .inl rfl⟩, ?_⟩
      · exact (But.set W j _).ar hUW (by omega)
      · exact (But.set W j _).ar hVW (by omega)
      · have := hQW.set j g
        rwa [set_back] at this
      · exact (But.set W j _).below (by omega) (by have := hbut.size; have := hI.below.size; omega) (hbut.below (by omega) hI.below.size hI.below)
      · simp only [muL, intOf]
        simp
        omega
  · intro P2
    rintro a wr ⟨gu, gv, gq, m, U, Q, t6, t7, t8, t9, t10, hg0, hg1, hg2, hI, ha, hcase⟩
    rcases hcase with h | ⟨h, _⟩ | ⟨_, j, g, r, rfl, rfl, rfl, hr, hG⟩ | ⟨h, _⟩
    · omega
    · omega
    rotate_left
    · omega
    obtain ⟨uu, huu⟩ : ∃ uu, uu = tailL a := ⟨_, rfl⟩
    rw [← huu] at ha
    subst ha
    clear huu
    have hVn := HVn.out
    have hVl := HVl.out
    obtain ⟨pre, P, post, hUe, hpl, hPl, hwp, hwP, hwq, hpost, hvU, hpre, hvP⟩ := piece (n := n) hI.wU (j := j) (M := val V) (by have := hI.lU; have := hI.lQ; omega) hVl hI.lt
    have hgw := hG.hg
    have hGG := hG
    rw [hUe, pc_eq hpl hPl] at hG
    have hj1 := hI.lQ
    have hj2 : j + n ≤ L := by omega
    obtain ⟨g1, eg1, hg1'⟩ : ∃ g1 : Nat, IntKind.u64.wrap ((g : Int) - 1) = (g1 : Int) ∧ (1 ≤ g → g1 = g - 1) := ⟨(IntKind.u64.wrap ((g : Int) - 1)).toNat, by simp only [IntKind.wrap_u64]; omega, by simp only [IntKind.wrap_u64]; omega⟩
    have HG1 := Lib.hid hg1'
    clear hg1'
    obtain ⟨v1, v0, hv1, hv0, hVe⟩ := top2 hVn h2
    have hv1w := HVw.out.get hv1
    have hv0w := HVw.out.get hv0
    obtain ⟨u2, u1, u0, hu2, hu1, hu0, hPe⟩ := top3 hPl h2
    have hu0w := hwP.get hu0
    have hv1p : 1 ≤ v1 := by
      rcases Nat.eq_zero_or_pos v1 with e | e
      · exfalso
        have h1 := HYL.out
        have h3 := val_take_succ V (n - 1) v1 hv1
        rw [show n - 1 + 1 = n by omega, ← hVn, List.take_length, hVn, e, Nat.mul_zero, Nat.add_zero] at h3
        have h4 := val_lt (HVw.out.take (n - 1))
        rw [List.length_take, Nat.min_eq_left (by omega), ← h3, HVal.out] at h4
        have h5 := Nat.mul_le_mul_left (val y) (Nat.two_pow_pos s)
        omega
      · exact e
    have hGT := Lib.hid (guess_tell hVn hPl h2 HVw.out hwP hG hv1 hv1p hv0 hu0)
    have hGD := Lib.hid (fun h => hG.dec hv1 h)
    have HGT2 := Lib.hid (fun hG2 : Guess n V P (g - 1) (r + v1) => guess_tell hVn hPl h2 HVw.out hwP hG2 hv1 hv1p hv0 hu0)
    have hPC := Lib.hid (show pc n U j = P by rw [hUe, pc_eq hpl hPl])
    have HU := hI.hU
    have HV := hI.hV
    have hgu0 : U[j + n - 2]? = some u0 := by rw [hUe, show j + n - 2 = j + (n - 2) by omega, get_pre hpl (by omega)]; exact hu0
    have hcv0 := HV.cell hv0
    have hn2 : ((n : Int) - 2).toNat = n - 2 := by omega
    have hjn2 : ((j : Int) + n - 2).toNat = j + n - 2 := by omega
    clear hVe hPe hv0 hu2 hu1 hu0 hUe
    refine ⟨_, rfl, ?_⟩
    simp only [frL]
    go_wp2_with (first
      | (go_at_call 131; refine (mulw_any g v0 _ hgw hv0w).mono ?_; rintro e W ⟨⟨hi, lo, rfl, hml, hhi, hlo⟩, hbW⟩; have HUW := HU.below hbW HU.lt; have HVW := HV.below hbW HV.lt; have hcu0 := HUW.cell hgu0; have hcv1 := HVW.cell hv1)
      | (go_at_call 121; refine (cmpw4_any hi lo r u0 _ hlo hu0w).mono ?_; rintro e W2 ⟨⟨z, rfl, hzz, hz1, hz2⟩, rfl⟩; have HZZ := Lib.hid hzz; clear hzz)
      | (go_at_call 132; refine (addw_any r v1 0 _ hr hv1w (by decide)).mono ?_; rintro e W2 ⟨r2, c1, rfl, had1, hr2, hc1, rfl⟩)
      | fail)
    · have hle : g * v0 ≤ 18446744073709551616 * r + u0 := by rw [← hml]; exact HZZ.out.1 (by assumption)
      go_step3
      refine ⟨⟨gu, gv, gq, j + 1, U, Q, .int .u64 g, .int .u64 r, t8, .int .u64 hi, .int .u64 lo, hg0, hg1, hg2, hI.world hbW, (by rw [show ((j + 1 : Nat) : Int) - 1 = (j : Int) by omega]; rfl), .inr (.inr (.inr ⟨rfl, j, g, rfl, rfl, hgw, hGG.up, ?_⟩))⟩, ?_⟩
      · rw [hPC.out]; exact hGT.out.1 hle
      · simp only [muL, intOf]
        simp
    · have hlt : 18446744073709551616 * r + u0 < g * v0 := by
        rw [← hml]
        have h1 : ¬ z ≤ 0 := by omega
        exact Nat.lt_of_not_le fun h => h1 (HZZ.out.2 h)
      have hqg := hGT.out.2 hlt
      have hg1e : g1 = g - 1 := HG1.out (Nat.lt_of_le_of_lt (Nat.zero_le _) hqg)
      have hgp : 1 ≤ g := Nat.lt_of_le_of_lt (Nat.zero_le _) hqg
      have hG2 := hGD.out hqg
      have hc0 : c1 = 0 := by
        have h : ((c1 : Int) == 0) = true := by assumption
        simpa using h
      go_step3
      refine ⟨⟨gu, gv, gq, j + 1, U, Q, .int .u64 g1, .int .u64 r2, .int .u64 c1, .int .u64 hi, .int .u64 lo, hg0, hg1, hg2, hI.world hbW, (by rw [show ((j + 1 : Nat) : Int) - 1 = (j : Int) by omega]; rfl), .inr (.inr (.inl ⟨rfl, j, g1, r2, rfl, rfl, rfl, hr2, ?_⟩))⟩, ?_⟩
      · rw [hPC.out, hg1e, show r2 = r + v1 by omega]; exact hG2
      · simp only [muL, intOf]
        simp
        omega
    · have hlt : 18446744073709551616 * r + u0 < g * v0 := by
        rw [← hml]
        have h1 : ¬ z ≤ 0 := by omega
        exact Nat.lt_of_not_le fun h => h1 (HZZ.out.2 h)
      have hqg := hGT.out.2 hlt
      have hg1e : g1 = g - 1 := HG1.out (Nat.lt_of_le_of_lt (Nat.zero_le _) hqg)
      have hgp : 1 ≤ g := Nat.lt_of_le_of_lt (Nat.zero_le _) hqg
      have hG2 := hGD.out hqg
      have hc0 : c1 = 1 := by
        have h : ((c1 : Int) == 0) = false := by assumption
        have h2 : ¬ c1 = 0 := by simpa using h
        omega
      have hov : (g - 1) * v0 ≤ 18446744073709551616 * (r + v1) + u0 := by
        have h1 : (g - 1) * v0 ≤ 18446744073709551616 * 18446744073709551616 := Nat.mul_le_mul (by omega) (by omega)
        omega
      have hup := (HGT2.out hG2).1 hov
      apply wp_label
      refine (‹∀ (a : Act) (w : World), Code.wp Tryz.prog _ _ a w → _› _ _ ?_)
      refine fall_in (P2 _ _ ?_) rfl ?_
      · refine ⟨gu, gv, gq, j + 1, U, Q, .int .u64 g1, .int .u64 r2, .int .u64 c1, .int .u64 hi, .int .u64 lo, hg0, hg1, hg2, hI.world hbW, (by rw [show ((j + 1 : Nat) : Int) - 1 = (j : Int) by omega]; rfl), .inr (.inr (.inr ⟨rfl, j, g1, rfl, rfl, by omega, ?_, ?_⟩))⟩
        · rw [hPC.out, hg1e]; exact hG2.up
        · rw [hPC.out, hg1e]; exact hup
      · refine jumpsTo_imp fun l' a' w' h => ⟨h.1, Nat.lt_trans h.2 ?_⟩
        simp only [muL, intOf]
        simp
  · intro P3
    rintro a wr ⟨gu, gv, gq, m, U, Q, t6, t7, t8, t9, t10, hg0, hg1, hg2, hI, ha, hcase⟩
    rcases hcase with _ | ⟨h, _⟩ | ⟨h, _⟩ | ⟨h, _⟩
    rotate_left
    · omega
    · omega
    · omega
    obtain ⟨uu, huu⟩ : ∃ uu, uu = tailL a := ⟨_, rfl⟩
    rw [← huu] at ha
    subst ha
    clear huu
    cases m with
    | zero =>
      refine ⟨_, rfl, ?_⟩
      simp only [frL]
      go_wp2_with fail
      go_step3
      refine ⟨⟨gu, gv, gq, 0, U, Q, t6, t7, t8, t9, t10, hg0, hg1, hg2, hI, rfl, .inr (.inl ⟨rfl, rfl⟩)⟩, ?_⟩
      simp [muL, intOf]
    | succ j =>
      have hVn := HVn.out
      have hVl := HVl.out
      obtain ⟨pre, P, post, hUe, hpl, hPl, hwp, hwP, hwq, hpost, hvU, hpre, hvP⟩ := piece (n := n) hI.wU (j := j) (M := val V) (by have := hI.lU; have := hI.lQ; omega) hVl hI.lt
      have hPC := Lib.hid (show pc n U j = P by rw [hUe, pc_eq hpl hPl])
      have hj1 := hI.lQ
      have hj2 : j + n ≤ L := by omega
      obtain ⟨v1, v0, hv1, hv0, hVe⟩ := top2 hVn h2
      have hv1w := HVw.out.get hv1
      obtain ⟨u2, u1, u0, hu2, hu1, hu0, hPe⟩ := top3 hPl h2
      have hu2w := hwP.get hu2
      have hu1w := hwP.get hu1
      have hv1p : 1 ≤ v1 := by
        rcases Nat.eq_zero_or_pos v1 with e | e
        · exfalso
          have h1 := HYL.out
          have h3 := val_take_succ V (n - 1) v1 hv1
          rw [show n - 1 + 1 = n by omega, ← hVn, List.take_length, hVn, e, Nat.mul_zero, Nat.add_zero] at h3
          have h4 := val_lt (HVw.out.take (n - 1))
          rw [List.length_take, Nat.min_eq_left (by omega), ← h3, HVal.out] at h4
          have h5 := Nat.mul_le_mul_left (val y) (Nat.two_pow_pos s)
          omega
        · exact e
      have hle := top_le hVn hPl h2 HVw.out hvP hv1 hu2
      have HU := hI.hU
      have HV := hI.hV
      have hgu2 : U[j + n]? = some u2 := by rw [hUe, get_pre hpl (by omega)]; exact hu2
      have hgu1 : U[j + n - 1]? = some u1 := by rw [hUe, show j + n - 1 = j + (n - 1) by omega, get_pre hpl (by omega)]; exact hu1
      have hcu2 := HU.cell hgu2
      have hcu1 := HU.cell hgu1
      have hcv1 := HV.cell hv1
      have hjn1 : ((j : Int) + n - 1).toNat = j + n - 1 := by omega
      have b1 : IntKind.i64.wrap ((j : Int) + n) = (j : Int) + n := IntWalk.i64_in _ (by omega)
      have b2 : IntKind.i64.wrap ((j : Int) + n - 1) = (j : Int) + n - 1 := IntWalk.i64_in _ (by omega)
      have b3 : IntKind.i64.wrap ((n : Int) - 1) = (n : Int) - 1 := IntWalk.i64_in _ (by omega)
      have b4 : (0 : Int) ≤ (j : Int) + n := by omega
      have b5 : (j : Int) + n < (L : Int) + 1 := by omega
      have b6 : (0 : Int) ≤ (n : Int) - 1 := by omega
      have b7 : (n : Int) - 1 < (n : Int) := by omega
      have b8 : (0 : Int) ≤ (j : Int) + n - 1 := by omega
      have b9 : (j : Int) + n - 1 < (L : Int) + 1 := by omega
      have b10 : ((j : Int) + n).toNat = j + n := by omega
      have b11 : (1 : Int) ≤ (j : Int) + n := by omega
      have b12 : (1 : Int) ≤ (n : Int) := by omega
      have b13 : (0 : Int) < (j : Int) + n := by omega
      have b14 : (0 : Int) < (n : Int) := by omega
      have b15 : 0 < j + n := by omega
      have b16 : (j : Int) + n - 1 < (L : Int) + 1 := by omega
      have b17 : (j : Int) + n < (L : Int) + 1 + 1 := by omega
      have b18 : (j : Int) + n ≤ (L : Int) + 1 := by omega
      by_cases hEq : u2 = v1
      · subst hEq
        have hG := Lib.hid (guess_full hvP hv1 hu2 hu1)
        have hov := Lib.hid (fun h => (guess_tell hVn hPl h2 HVw.out hwP hG.out hv1 hv1p hv0 hu0).1 h)
        have hv0w := HVw.out.get hv0
        obtain ⟨r, hr⟩ : ∃ r, r = (u1 + u2 + 0) % 18446744073709551616 := ⟨_, rfl⟩
        obtain ⟨co, hco⟩ : ∃ r, r = (u1 + u2 + 0) / 18446744073709551616 := ⟨_, rfl⟩
        have HA := fun W => Lib.hid (addw_eq u1 u2 0 W hu1w hv1w (by decide))
        rw [← hr, ← hco] at HA
        have HR := Lib.hid (show r + 18446744073709551616 * co = u1 + u2 by omega)
        have hrw : r < 18446744073709551616 := by omega
        have hcow : co ≤ 1 := by omega
        clear hr hco hVe hPe hv0 hu2 hu1 hu0 hUe hv1 hgu2 hgu1
        refine ⟨_, rfl, ?_⟩
        simp only [frL]
        go_wp2_with fail
        go_quiet (fail)
        go_wp2_with fail
        go_region_law ((try go_simp); go_at_call 132; refine (HA _).out.mono ?_; rintro e W ⟨rfl, rfl⟩)
        all_goals go_wp2_with fail
        all_goals first
          | (
              have hc1 : co = 1 := by
                have h : ((co : Int) == 1) = true := by assumption
                have h2 : (co : Int) = 1 := by simpa using h
                omega
              have hup := hov.out (by
                have h1 : 18446744073709551615 * v0 ≤ 18446744073709551615 * 18446744073709551616 := Nat.mul_le_mul_left _ (by omega)
                have := HR.out
                omega)
              go_step3
              refine ⟨⟨gu, gv, gq, j + 1, U, Q, .int .u64 ((18446744073709551615 : Nat) : Int), .int .u64 r, .int .u64 co, t9, t10, hg0, hg1, hg2, hI.world (drewN_below _ _), (by rw [show ((j + 1 : Nat) : Int) - 1 = (j : Int) by omega]; rfl), .inr (.inr (.inr ⟨rfl, j, 18446744073709551615, rfl, rfl, by decide, ?_, ?_⟩))⟩, ?_⟩
              · rw [hPC.out]; exact hG.out.up
              · rw [hPC.out]; exact hup
              · simp only [muL, intOf]
                simp)
          | (
              have hc0 : co = 0 := by
                have h : ((co : Int) == 1) = false := by assumption
                have h2 : ¬ (co : Int) = 1 := by simpa using h
                omega
              apply wp_label
              refine (‹∀ (a : Act) (w : World), Code.wp Tryz.prog _ _ a w → _› _ _ ?_)
              refine fall_in (P3 _ _ ?_) rfl ?_
              · refine ⟨gu, gv, gq, j + 1, U, Q, .int .u64 ((18446744073709551615 : Nat) : Int), .int .u64 r, .int .u64 co, t9, t10, hg0, hg1, hg2, hI.world (drewN_below _ _), (by rw [show ((j + 1 : Nat) : Int) - 1 = (j : Int) by omega]; rfl), .inr (.inr (.inl ⟨rfl, j, 18446744073709551615, r, rfl, rfl, rfl, hrw, ?_⟩))⟩
                rw [hPC.out, show r = u1 + u2 by have := HR.out; omega]; exact hG.out
              · refine jumpsTo_imp fun l' a' w' h => ⟨h.1, Nat.lt_trans h.2 ?_⟩
                simp only [muL, intOf]
                simp)
      · have hlt : u2 < v1 := by omega
        have hEq2 : ¬ (u2 : Int) = (v1 : Int) := by omega
        have HD := fun W => Lib.hid (divw_any u2 u1 v1 W hv1w hlt hu1w)
        have HGD := Lib.hid (fun q r h hr hq => guess_div (g := q) (r := r) hVn hPl h2 hwP hv1 hu2 hu1 h hr hq)
        clear hVe hPe hv0 hu2 hu1 hu0 hUe hv1 hgu2 hgu1
        refine ⟨_, rfl, ?_⟩
        simp only [frL]
        go_wp2_with fail
        go_quiet (fail)
        go_wp2_with fail
        go_region_law ((try go_simp); go_at_call 133; refine (HD _).out.mono ?_; rintro e W ⟨⟨q, r, rfl, hqr, hrv, hqw⟩, hbW⟩)
        all_goals go_simp
        all_goals go_wp2_with fail
        all_goals
          apply wp_label
          refine (‹∀ (a : Act) (w : World), Code.wp Tryz.prog _ _ a w → _› _ _ ?_)
          refine fall_in (P3 _ _ ?_) rfl ?_
          · refine ⟨gu, gv, gq, j + 1, U, Q, .int .u64 q, .int .u64 r, t8, t9, t10, hg0, hg1, hg2, hI.world (below_drewNW hbW), (by rw [show ((j + 1 : Nat) : Int) - 1 = (j : Int) by omega]; rfl), .inr (.inr (.inl ⟨rfl, j, q, r, rfl, rfl, rfl, by omega, ?_⟩))⟩
            rw [hPC.out]; exact HGD.out q r hqr hrv hqw
          · refine jumpsTo_imp fun l' a' w' h => ⟨h.1, Nat.lt_trans h.2 ?_⟩
            simp only [muL, intOf]
            simp
            omega
  · intro P1
    go_wp2_with (first
      | (go_at_call 96; refine (HLN _).out.mono ?_; rintro e w' ⟨rfl, rfl⟩)
      | (go_at_call_of 134 (Value.slice (some ⟨p2, o2, none⟩) n c'); refine (H1 _ hy).out.mono ?_; rintro e w1 ⟨rfl, hg1, hb1⟩; have hx1 := hx.below hb1)
      | (go_at_call 134; refine (H2 _ hx1).out.mono ?_; rintro e w2 ⟨rfl, hg2, hb2⟩;
          obtain ⟨w3, hmk, hg3, hb3⟩ := make_words (L - n + 1) w2 (by omega);
          rw [show ((L - n + 1 : Nat) : Int) = (L : Int) - n + 1 by omega] at hmk; have HG3 := Lib.hid hg3; clear hg3)
      | fail)
    have hVs : shlW s n y = V := by unfold shlW; rw [if_pos HYN.out.symm, HVV.out]
    have hUs : shlW s (L + 1) x = shlL s 0 x ++ [shlC s 0 x] := by unfold shlW; rw [if_neg (by have := HXL.out; omega)]
    have hxl := HXL.out
    rw [hVs] at hg1
    rw [hUs] at hg2
    have hlt1 := hg1.out.lt
    have hlt2 := hg2.out.lt
    have hUv : val (shlL s 0 x ++ [shlC s 0 x]) = val x * 2 ^ s := by
      rw [val_snoc _ _ L (by rw [shlL_length, hxl])]
      have := shlL_val (n := s) (by omega) 0 x
      rw [hxl] at this
      omega
    have hcw : shlC s 0 x < 18446744073709551616 := by
      have h1 := shlC_lt (n := s) (by omega) (c := 0) (Nat.two_pow_pos s) hxw
      have h2 : 2 ^ s ≤ 2 ^ 64 := Nat.pow_le_pow_right (by decide) (by omega)
      omega
    apply wp_label
    refine (‹∀ (a : Act) (w : World), Code.wp Tryz.prog _ _ a w → _› _ _ ?_)
    refine fall_in (P1 _ _ ?_) rfl ?_
    · refine ⟨w1.heap.size, _, w2.heap.size, L - n + 1, shlL s 0 x ++ [shlC s 0 x], [], _, _, _, _, _, Nat.le_refl _, hlt1, hlt2, ⟨hg2.out.below hb3 hlt2, (hg1.out.below hb2 hlt1).below hb3 (Nat.lt_of_lt_of_le hlt1 hb2.size), ?_, ?_, (shlL_w (by omega) (Nat.two_pow_pos s) hxw).append (W64.cons hcw W64.nil), ?_, W64.nil, ?_, ?_, ?_⟩, (by rw [show ((L - n + 1 : Nat) : Int) - 1 = (L : Int) - n by omega]; rfl), .inl rfl⟩
      · rw [List.append_nil]; exact HG3.out
      · rw [List.length_append, shlL_length, hxl]; rfl
      · rfl
      · rw [hUv]; simp [val]
      · rw [hUv, HVal.out]
        have h1 := val_lt hxw
        rw [hxl] at h1
        have h3 := Nat.mul_lt_mul_of_pos_right h1 (Nat.two_pow_pos s)
        refine Nat.lt_of_lt_of_le h3 ?_
        have h4 := Nat.mul_le_mul_left (18446744073709551616 ^ (L - n + 1)) (Nat.mul_le_mul_right (2 ^ s) HYL.out)
        rw [← Nat.mul_assoc, ← Nat.pow_add, show L - n + 1 + (n - 1) = L by omega] at h4
        exact h4
      · exact hb1.trans ((hb2.mono hb1.size).trans (hb3.mono (Nat.le_trans hb1.size hb2.size)))
    · exact jumpsTo_imp fun l' a' w' h => h.1
end Go.Proofs.YtjdelpelnjhidaaGreatDoor.Pl
