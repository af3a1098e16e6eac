/- wide: quotients of two words by one, where the quotient is one word. -/
import Derived.Test.YtjdelpelnjhidaaGreatDoorWideM
import Derived.RegionTactic
import Derived.BigRegion
namespace Go.Proofs.YtjdelpelnjhidaaGreatDoor.Pl
open Go.RowKit
/-- what stands above the next half while a quotient of two words is made -/
def dv (rest0 l0 l1 : Nat) : Nat → Nat
  | 0 => rest0
  | 1 => 4294967296 * rest0 + l0
  | _ => 4294967296 * (4294967296 * rest0 + l0) + l1
theorem dv_step {rest0 l0 l1 k l : Nat} (hk : k < 2) (h : [l0, l1][k]? = some l) : dv rest0 l0 l1 (k + 1) = 4294967296 * dv rest0 l0 l1 k + l := by
  rcases (by omega : k = 0 ∨ k = 1) with rfl | rfl
  · simp at h; subst h; rfl
  · simp at h; subst h; rfl
theorem norm_lt {b : Nat} (h0 : b ≠ 0) (hb : b < 18446744073709551616) : b * 2 ^ (64 - bl b) < 18446744073709551616 ∧ 9223372036854775808 ≤ b * 2 ^ (64 - bl b) := by
  have hl : bl b ≤ 64 := bl_le_iff.2 hb
  have hp := bl_pos h0
  constructor
  · have h1 := Nat.mul_lt_mul_of_pos_right (lt_bl b) (Nat.two_pow_pos (64 - bl b))
    rw [← Nat.pow_add, show bl b + (64 - bl b) = 64 by omega] at h1
    exact h1
  · have h1 := Nat.mul_le_mul_right (2 ^ (64 - bl b)) (bl_le h0)
    rw [← Nat.pow_add, show bl b - 1 + (64 - bl b) = 63 by omega] at h1
    exact h1
theorem div_step {rest bb l q d : Nat} (hd : d = (4294967296 * rest + l) / bb) {V : Nat} (hv : V = q * bb + rest) : 4294967296 * V + l = (4294967296 * q + d) * bb + (4294967296 * rest + l) % bb := by
  subst hv hd
  have h1 := Nat.div_add_mod (4294967296 * rest + l) bb
  have h2 : (4294967296 * q + (4294967296 * rest + l) / bb) * bb = 4294967296 * (q * bb) + bb * ((4294967296 * rest + l) / bb) := by rw [Nat.add_mul, Nat.mul_assoc, Nat.mul_comm bb]
  omega
theorem rest_eq {rr l bb d : Nat} (hd : d = (4294967296 * rr + l) / bb) (hb : bb < 18446744073709551616) (h0 : 0 < bb) : IntKind.u64.wrap (IntKind.u64.wrap (IntKind.u64.wrap ((rr : Int) * 4294967296) + (l : Int)) - IntKind.u64.wrap ((d : Int) * (bb : Int))) = (((4294967296 * rr + l) % bb : Nat) : Int) := by
  have h1 := Nat.div_add_mod (4294967296 * rr + l) bb
  have h2 := Nat.mod_lt (4294967296 * rr + l) h0
  rw [← hd] at h1
  rw [← Int.natCast_mul, Nat.mul_comm d bb]
  simp only [IntKind.wrap_u64]
  generalize (4294967296 * rr + l) % bb = z at *
  generalize bb * d = y at *
  omega
theorem quo_lt {rr l bb : Nat} (hr : rr < bb) (hl : l < 4294967296) : (4294967296 * rr + l) / bb < 4294967296 := by
  refine (Nat.div_lt_iff_lt_mul (by omega)).2 ?_
  have := Nat.mul_le_mul_left 4294967296 (show rr + 1 ≤ bb from hr)
  omega
/-- a guess that is not above, and the words it is tried by: it is the quotient -/
theorem guess_is {bb bh bw rr l d f : Nat} (hb : bb = 4294967296 * bh + bw) (h0 : 0 < bb) (hi : d * bh + f = rr) (hq : (4294967296 * rr + l) / bb ≤ d) (hd : d * bw ≤ 4294967296 * f + l) : d = (4294967296 * rr + l) / bb := by
  have h1 := half_done hb hi hd
  have h2 := (Nat.le_div_iff_mul_le h0).2 h1
  omega
theorem guess_more {bb bh bw rr l d f : Nat} (hb : bb = 4294967296 * bh + bw) (h0 : 0 < bb) (hi : (d + 1) * bh + f = rr) (hd : 4294967296 * f + l < (d + 1) * bw) : (4294967296 * rr + l) / bb ≤ d := by
  have h1 := half_more hb hi hd
  have := (Nat.div_lt_iff_lt_mul h0).2 h1
  omega
theorem guess_far {bb bh bw rr l d f : Nat} (hb : bb = 4294967296 * bh + bw) (h0 : 0 < bb) (hi : d * bh + f = rr) (hq : (4294967296 * rr + l) / bb ≤ d) (hd : d ≤ 4294967296) (hf : 4294967296 ≤ f) (hw : bw < 4294967296) : d = (4294967296 * rr + l) / bb := by
  refine guess_is hb h0 hi hq ?_
  have h1 : d * bw ≤ 4294967296 * 4294967295 := Nat.mul_le_mul hd (by omega)
  omega
theorem unshift {N q b rr p : Nat} (hp : 0 < p) (h : N * p = q * (b * p) + rr) (hr : rr < b * p) : N = q * b + rr / p ∧ rr / p < b := by
  have h1 : q * (b * p) = q * b * p := (Nat.mul_assoc _ _ _).symm
  have h2 : q * b ≤ N := by
    refine Nat.le_of_mul_le_mul_right ?_ hp
    omega
  have h3 : rr = (N - q * b) * p := by rw [Nat.mul_sub_right_distrib]; omega
  have h4 : rr / p = N - q * b := by rw [h3, Nat.mul_div_cancel _ hp]
  refine ⟨by omega, (Nat.div_lt_iff_lt_mul hp).2 hr⟩
set_option maxRecDepth 100000 in
set_option maxHeartbeats 4000000 in
theorem divw_any (hi lo b : Nat) (w : World) (hb : b < 18446744073709551616) (hh : hi < b) (hlo : lo < 18446744073709551616) : Calls Tryz.prog 133 #[.int .u64 hi, .int .u64 lo, .int .u64 b] w fun e w' => (∃ q r : Nat, e = .returned (.tuple #[.int .u64 q, .int .u64 r, .int .i64 0]) ∧ 18446744073709551616 * hi + lo = q * b + r ∧ r < b ∧ q < 18446744073709551616) ∧ Below w.heap.size w w' := by
  have hl : bl b ≤ 64 := bl_le_iff.2 hb
  have hp := bl_pos (n := b) (by omega)
  have hN := norm_lt (b := b) (by omega) hb
  obtain ⟨s, hs⟩ : ∃ s, s = 64 - bl b := ⟨_, rfl⟩
  rw [← hs] at hN
  have HL := Lib.hid (len_any b w hb)
  have hsub : IntKind.i64.wrap (64 - ((bl b : Nat) : Int)) = (s : Int) := (IntWalk.i64_in _ (by omega)).trans (by omega)
  obtain ⟨bb, hbb⟩ : ∃ bb, bb = b * 2 ^ s := ⟨_, rfl⟩
  have hB : IntKind.u64.wrap ((b : Int) * 2 ^ s) = (bb : Int) := by
    rw [hbb, IntKind.wrap_u64, Int.natCast_mul, Int.natCast_pow]
    exact Int.emod_eq_of_lt (by exact Int.natCast_nonneg (b * 2 ^ s)) (by have := hN.1; exact Int.ofNat_lt.2 this)
  rw [← hbb] at hN
  obtain ⟨rest0, hr0⟩ : ∃ r, r = hi * 2 ^ s % 18446744073709551616 + lo / 2 ^ (64 - s) := ⟨_, rfl⟩
  obtain ⟨ll, hll⟩ : ∃ r, r = lo * 2 ^ s % 18446744073709551616 := ⟨_, rfl⟩
  have hs64 : s ≤ 64 := by omega
  have hlw : ll < 18446744073709551616 := by rw [hll]; exact Nat.mod_lt _ (by decide)
  have eL : IntKind.u64.wrap ((lo : Int) * 2 ^ s) = (ll : Int) := by rw [hll, IntKind.wrap_u64, Int.natCast_emod, Int.natCast_mul, Int.natCast_pow]; rfl
  have eR : bits .or .u64 (IntKind.u64.wrap ((hi : Int) * 2 ^ s)) ((lo : Int) / 2 ^ (64 - s)) = (rest0 : Int) := by
    have e1 : IntKind.u64.wrap ((hi : Int) * 2 ^ s) = ((hi * 2 ^ s % 18446744073709551616 : Nat) : Int) := by rw [IntKind.wrap_u64, Int.natCast_emod, Int.natCast_mul, Int.natCast_pow]; rfl
    have e3 : (lo : Int) / 2 ^ (64 - s) = ((lo / 2 ^ (64 - s) : Nat) : Int) := by rw [Int.natCast_ediv, Int.natCast_pow]; rfl
    rw [e1, e3, u64_or_nat _ _ (Nat.mod_lt _ (by decide)) (Nat.lt_of_le_of_lt (Nat.div_le_self _ _) hlo), or_shl hi _ s hs64 (shr_lt lo s hs64 hlo), ← hr0]
  have HN : Hid (18446744073709551616 * rest0 + ll = (18446744073709551616 * hi + lo) * 2 ^ s) := by
    have h1 : hi * 2 ^ s % 18446744073709551616 = hi * 2 ^ s := by
      apply Nat.mod_eq_of_lt
      refine Nat.lt_of_le_of_lt (Nat.mul_le_mul_right _ (Nat.le_of_lt hh)) ?_
      rw [← hbb]; exact hN.1
    have h2 := shl_word lo hs64
    refine Lib.hid ?_
    rw [hr0, hll, h1, Nat.add_mul]
    rw [Nat.mul_assoc]
    omega
  have hrest : rest0 < bb := by
    have h3 : 18446744073709551616 * rest0 + ll < 18446744073709551616 * bb := by
      rw [HN.out, hbb, ← Nat.mul_assoc]
      refine Nat.mul_lt_mul_of_pos_right ?_ (Nat.two_pow_pos s)
      omega
    omega
  obtain ⟨l0, hl0⟩ : ∃ l0, l0 = ll / 4294967296 := ⟨_, rfl⟩
  obtain ⟨l1, hl1⟩ : ∃ l1, l1 = ll % 4294967296 := ⟨_, rfl⟩
  have el0 : (ll : Int) / 4294967296 = (l0 : Int) := by omega
  have el1 : bits .and .u64 (ll : Int) 4294967295 = (l1 : Int) := (and_half ll hlw).trans (by rw [hl1])
  have HLL : Hid (ll = 4294967296 * l0 + l1) := Lib.hid (by omega)
  have hl0w : l0 < 4294967296 := by omega
  have hl1w : l1 < 4294967296 := by omega
  obtain ⟨bh, hbh⟩ : ∃ l0, l0 = bb / 4294967296 := ⟨_, rfl⟩
  obtain ⟨bw, hbw⟩ : ∃ l1, l1 = bb % 4294967296 := ⟨_, rfl⟩
  have ebh : (bb : Int) / 4294967296 = (bh : Int) := by omega
  have ebw : bits .and .u64 (bb : Int) 4294967295 = (bw : Int) := (and_half bb hN.1).trans (by rw [hbw])
  have HBB := Lib.hid (show bb = 4294967296 * bh + bw by omega)
  have hbhw : bh < 4294967296 := by omega
  have hbhl : 2147483648 ≤ bh := by omega
  have hbww : bw < 4294967296 := by omega
  have HB := Lib.hid hbb
  have HHH := Lib.hid hh
  clear hbb hr0 hll hl0 hl1 hbh hbw
  have HS := Lib.hid hs
  clear hs
  have h0 : (0 : Int) ≤ (s : Int) := by omega
  have h1 : (s : Int) ≤ 64 := by have := HS.out; omega
  have h2 : (0 : Int) ≤ 64 - (s : Int) := by omega
  have h3 : 64 - (s : Int) ≤ 64 := by omega
  have h4 : IntKind.i64.wrap (64 - (s : Int)) = 64 - (s : Int) := IntWalk.i64_in _ (by omega)
  have hz : ¬ (b : Int) = 0 := by omega
  have hge : ¬ (b : Int) ≤ (hi : Int) := by omega
  go_enter Tryz.func133, Tryz.ntmps133
  go_wp2_with fail
  refine HL.out.mono ?_
  rintro e w' ⟨rfl, rfl⟩
  go_wp2_with fail
  go_quiet (fail)
  go_wp2_with fail
  obtain ⟨w2, hw2⟩ : ∃ w2, w2 = w'.drewN nq := ⟨_, rfl⟩
  have hb2 : Below w'.heap.size w' w2 := by rw [hw2]; exact drewN_below _ _
  rw [← hw2]
  clear hw2
  go_region
  go_wp2_with fail
  go_loopw [44, 10, 12] (fun i r q wr => ∃ k rr qq : Nat, i = .int .i64 k ∧ r = .int .u64 rr ∧ q = .int .u64 qq ∧ k ≤ 2 ∧ rr < bb ∧ qq < 4294967296 ^ k ∧ Ar wr w2.heap.size 170 [l0, l1] ∧ Hid (dv rest0 l0 l1 k = qq * bb + rr) ∧ Below w'.heap.size w' wr) (fun i _ _ _ => 2 - (intOf i).toNat)
  case atStart =>
    refine ⟨0, rest0, 0, rfl, rfl, rfl, by omega, hrest, by decide, Ar.new w2 _ [l0, l1], Lib.hid (by simp [dv]), ?_⟩
    exact (hb2.alloc hb2.size _).drew
  case round =>
    obtain ⟨k, rr, qq, rfl, rfl, rfl, hk, hrr, hqq, ha, hv, hbel⟩ := hrel
    by_cases hk2 : k < 2
    · obtain ⟨l, hlk⟩ : ∃ l, [l0, l1][k]? = some l := ⟨_, List.getElem?_eq_getElem (by simpa using hk2)⟩
      have hlw2 : l < 4294967296 := by
        rcases (by omega : k = 0 ∨ k = 1) with rfl | rfl
        · simp at hlk; omega
        · simp at hlk; omega
      have hcl := ha.cell hlk
      have hbh0 : ¬ (bh : Int) = 0 := by omega
      obtain ⟨d0, hd0⟩ : ∃ d, d = rr / bh := ⟨_, rfl⟩
      obtain ⟨f0, hf0⟩ : ∃ f, f = rr % bh := ⟨_, rfl⟩
      have hbb0 : 0 < bb := by omega
      have hfirst := half_first (rest := rr) HBB.out (by omega) hlw2
      have hdm := Nat.div_add_mod rr bh
      have hfl := Nat.mod_lt rr (show 0 < bh by omega)
      rw [← hd0, ← hf0] at hdm
      rw [← hd0] at hfirst
      rw [← hf0] at hfl
      have hd0l : d0 ≤ 4294967297 := by
        rw [hd0]
        refine Nat.lt_succ_iff.1 ((Nat.div_lt_iff_lt_mul (by omega)).2 ?_)
        have := HBB.out
        omega
      have ed : IntKind.u64.wrap ((rr : Int) / (bh : Int)) = (d0 : Int) := by
        rw [← Int.natCast_ediv, ← hd0, IntKind.wrap_u64]; omega
      have ef : (rr : Int) % (bh : Int) = (f0 : Int) := by rw [← Int.natCast_emod, ← hf0]
      have HFI := Lib.hid hfirst
      have HDM := Lib.hid (show d0 * bh + f0 = rr by rw [Nat.mul_comm]; exact hdm)
      clear hfirst hdm hd0 hf0
      have FIN : Hid (∀ δ : Nat, δ = (4294967296 * rr + l) / bb → ∃ k_1 rr_1 qq_1 : Nat, Value.int .i64 ((k : Int) + 1) = Value.int .i64 k_1 ∧ Value.int .u64 (IntKind.u64.wrap (IntKind.u64.wrap (IntKind.u64.wrap ((rr : Int) * 4294967296) + (l : Int)) - IntKind.u64.wrap ((δ : Int) * (bb : Int)))) = Value.int .u64 rr_1 ∧
          Value.int .u64 (bits .or .u64 (IntKind.u64.wrap ((qq : Int) * 4294967296)) (δ : Int)) = Value.int .u64 qq_1 ∧ k_1 ≤ 2 ∧ rr_1 < bb ∧ qq_1 < 4294967296 ^ k_1 ∧ Ar wr w2.heap.size 170 [l0, l1] ∧ Hid (dv rest0 l0 l1 k_1 = qq_1 * bb + rr_1) ∧ Below w'.heap.size w' wr) := by
        refine Lib.hid fun δ hδ => ?_
        have hqw : qq < 4294967296 := by
          rcases (by omega : k = 0 ∨ k = 1) with rfl | rfl
          · simp at hqq; omega
          · simpa using hqq
        have hδw : δ < 4294967296 := by rw [hδ]; exact quo_lt hrr hlw2
        refine ⟨k + 1, (4294967296 * rr + l) % bb, qq * 4294967296 + δ, by go_num, by rw [rest_eq hδ hN.1 hbb0], by rw [or_halves qq δ hqw hδw], by omega, Nat.mod_lt _ hbb0, ?_, ha, ?_, hbel⟩
        · have h1 := Nat.mul_le_mul_right 4294967296 (show qq + 1 ≤ 4294967296 ^ k from hqq)
          rw [Nat.pow_succ]
          omega
        · refine Lib.hid ?_
          rw [dv_step hk2 hlk, Nat.mul_comm qq]
          exact div_step hδ hv.out
      go_wp2_with fail
      go_loopw [14, 15] (fun a c W => ∃ d f : Nat, a = .int .u64 d ∧ c = .int .u64 f ∧ d ≤ 4294967297 ∧ f < 4294967296 ∧ Hid (d * bh + f = rr) ∧ Hid ((4294967296 * rr + l) / bb ≤ d) ∧ W = wr) (fun a _ _ => (intOf a).toNat)
      case atStart => exact ⟨d0, f0, rfl, by rw [ef], hd0l, by omega, HDM, HFI, rfl⟩
      case round =>
        obtain ⟨d, f, rfl, rfl, hdl, hfw, hdf, hqd, rfl⟩ := hrel
        by_cases hdh : 4294967295 < d
        · have hdh2 : (4294967295 : Int) < (d : Int) := by omega
          obtain ⟨d1, hd1⟩ : ∃ d1, d1 = d - 1 := ⟨_, rfl⟩
          have HD1 := Lib.hid (show d = d1 + 1 by omega)
          have hq1 : Hid ((4294967296 * rr + l) / bb ≤ d1) := by
            have := quo_lt hrr hlw2
            exact Lib.hid (by omega)
          have ed1 : IntKind.u64.wrap ((d : Int) - 1) = (d1 : Int) := by simp only [IntKind.wrap_u64]; omega
          have hd1l : d1 ≤ 4294967296 := by omega
          clear hd1 hdh
          go_wp2_with fail
          · have hfb : 4294967295 < f + bh := by omega
            have hg := guess_far (l := l) (f := f + bh) HBB.out hbb0 (by have := hdf.out; rw [HD1.out, Nat.add_mul] at this; omega) hq1.out hd1l (by omega) hbww
            go_roundw
            case rel => exact FIN.out d1 hg
            case measure => simp [intOf]; omega
          · have hfb : f + bh ≤ 4294967295 := by omega
            go_roundw
            case rel => exact ⟨d1, f + bh, rfl, by go_num, by omega, by omega, Lib.hid (by have := hdf.out; rw [HD1.out, Nat.add_mul] at this; omega), hq1, by trivial⟩
            case measure => have := HD1.out; simp [intOf]; omega
        · have hdh2 : ¬ (4294967295 : Int) < (d : Int) := by omega
          obtain ⟨Q, hQ⟩ : ∃ Q, Q = d * bw := ⟨_, rfl⟩
          obtain ⟨Pp, hP⟩ : ∃ P, P = 4294967296 * f + l := ⟨_, rfl⟩
          have em : IntKind.u64.wrap ((d : Int) * (bw : Int)) = (Q : Int) := by
            have h1 : d * bw ≤ 4294967295 * 4294967295 := Nat.mul_le_mul (by omega) (by omega)
            rw [← Int.natCast_mul, ← hQ, IntKind.wrap_u64]
            omega
          have eo : bits .or .u64 ((f : Int) * 4294967296) (l : Int) = (Pp : Int) := by
            have h1 : IntKind.u64.wrap ((f : Int) * 4294967296) = (f : Int) * 4294967296 := by simp only [IntKind.wrap_u64]; omega
            rw [← h1]
            exact (or_halves f l hfw hlw2).trans (by omega)
          have HQ := Lib.hid hQ
          have HP := Lib.hid hP
          clear hQ hP
          by_cases ht : Pp < Q
          · have ht2 : (Pp : Int) < (Q : Int) := by omega
            obtain ⟨d1, hd1⟩ : ∃ d1, d1 = d - 1 := ⟨_, rfl⟩
            have hd0p : 0 < d := by
              rcases Nat.eq_zero_or_pos d with h | h
              · have := HQ.out; rw [h, Nat.zero_mul] at this; omega
              · exact h
            have hde : d = d1 + 1 := by omega
            have hq1 : Hid ((4294967296 * rr + l) / bb ≤ d1) := by
              refine Lib.hid (guess_more HBB.out hbb0 (by rw [← hde]; exact hdf.out) (f := f) ?_)
              rw [← hde, ← HQ.out, ← HP.out]; exact ht
            have HD1 := Lib.hid hde
            have ed1 : IntKind.u64.wrap ((d : Int) - 1) = (d1 : Int) := by simp only [IntKind.wrap_u64]; omega
            have hd1l : d1 ≤ 4294967296 := by omega
            clear hd1 hde ht hdh
            go_wp2_with fail
            · have hfb : 4294967295 < f + bh := by omega
              have hg := guess_far (l := l) (f := f + bh) HBB.out hbb0 (by have := hdf.out; rw [HD1.out, Nat.add_mul] at this; omega) hq1.out hd1l (by omega) hbww
              go_roundw
              case rel => exact FIN.out d1 hg
              case measure => simp [intOf]; omega
            · have hfb : f + bh ≤ 4294967295 := by omega
              go_roundw
              case rel => exact ⟨d1, f + bh, rfl, by go_num, by omega, by omega, Lib.hid (by have := hdf.out; rw [HD1.out, Nat.add_mul] at this; omega), hq1, by trivial⟩
              case measure => have := HD1.out; simp [intOf]; omega
          · have ht2 : ¬ (Pp : Int) < (Q : Int) := by omega
            go_wp2_with fail
            have hg := guess_is (l := l) HBB.out hbb0 hdf.out hqd.out (by have := HQ.out; have := HP.out; omega)
            go_roundw
            case rel => exact FIN.out d hg
            case measure => simp [intOf]; omega
    · have hk3 : k = 2 := by omega
      subst hk3
      have es : (rr : Int) / 2 ^ s = ((rr / 2 ^ s : Nat) : Int) := by rw [Int.natCast_ediv, Int.natCast_pow]; rfl
      have HES := Lib.hid es
      clear es
      go_wp2_with fail
      go_quiet (fail)
      go_wp2_with fail
      go_ret3
      rw [HES.out]
      have hV := hv.out
      simp only [dv] at hV
      have hU := unshift (N := 18446744073709551616 * hi + lo) (q := qq) (b := b) (rr := rr) (p := 2 ^ s) (Nat.two_pow_pos s) (by rw [← HN.out, ← HB.out, ← hV, HLL.out]; omega) (by rw [← HB.out]; exact hrr)
      refine ⟨⟨qq, rr / 2 ^ s, rfl, hU.1, hU.2, by simpa using hqq⟩, hbel.trans (drewN_below _ _ |>.mono hbel.size)⟩
end Go.Proofs.YtjdelpelnjhidaaGreatDoor.Pl
