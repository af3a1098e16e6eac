/- plumblaw14.FtoaForms, walked. -/
import Derived.Test.YtjdelpelnjhidaaGreatDoorFtoO
import Derived.Deep.Cut
import Derived.Deep.DeepCutAuto
import Derived.Deep.CutBlock
namespace Go.Proofs.YtjdelpelnjhidaaGreatDoor.Pl
open Go.RowKit
theorem or_f {a b : Bool} (h : a = false) (k : b = false) : (a || b) = false := by rw [h, k]; rfl
theorem and_l {a b : Bool} (h : a = false) : (a && b) = false := by rw [h]; rfl
theorem and_r {a b : Bool} (h : b = false) : (a && b) = false := by rw [h, Bool.and_false]
theorem dec_f {p : Prop} [Decidable p] (h : ¬ p) : decide p = false := decide_eq_false h
theorem beq_f {x y : Int} (h : ¬ x = y) : (x == y) = false := beq_eq_false_iff_ne.2 h
/-- what the three texts of a pattern above 0 are -/
theorem forms_of {c : Nat} {S T U : List UInt8} (h1 : TextR c 1 S) (h2 : TextR c 3 T) (h3 : TextR c 2 U) (hf : finP c) : ∃ d x m e, S = shortL (Lib.decDigits d) ((Lib.decDigits d).length + x) ∧ T = sciL (Lib.decDigits d) ((Lib.decDigits d).length + x) ∧ U = hexX m e ∧ d % 10 ≠ 0 ∧ (Lib.decDigits d).length ≤ 20 ∧ -400 ≤ x ∧ x ≤ 800 ∧ -1100 ≤ e ∧ e ≤ 1100 := by
  rcases h1 with ⟨_, d, x, a1, a2⟩ | ⟨h, _⟩ | ⟨h, _⟩
  · rcases h2 with ⟨h, _⟩ | ⟨h, _⟩ | ⟨_, d', x', b1, b2⟩
    · omega
    · omega
    · rcases h3 with ⟨h, _⟩ | ⟨_, m, e, c1, c2⟩ | ⟨h, _⟩
      · omega
      · obtain ⟨rfl, rfl⟩ := ShortR.one b1 a1
        have hs := a1.small
        obtain ⟨t, i, k, hT, hi, hc, hno, hdk, hx, hm, hx1, hx2⟩ := id a1
        have hb := c1.bounds hf
        exact ⟨d', x', m, e, a2, b2, c2, hm, (dec_len (d := d') (by omega) (by omega)).2, hx1, hx2, hb.1, hb.2⟩
      · omega
  · omega
  · omega
theorem textT_low {c m : Nat} (hc : c < 9223372036854775808) : textT c m = sizeT c m := by
  rw [textT_size, if_neg (by omega), List.nil_append, Nat.mod_eq_of_lt hc]
/-- the three texts of a pattern above 0, by their looks -/
structure FormP (S T U H X W R : List UInt8) (p : Int) (m : Nat) (e : Int) : Prop where
  tcut : fstS 101 T = H ∧ sndS 101 T = X
  tle : T.length ≤ 61
  sle : S.length ≤ 61
  mant : MantF H
  exp : ExpF X (p - 1)
  far : p < -5 ∨ 21 < p → S = T
  near : ¬ (p < -5 ∨ 21 < p) → PlainF S W R p
  hex : U = hexX m e
  e1 : -1100 ≤ e
  e2 : e ≤ 1100
  p1 : -1000 ≤ p
  p2 : p ≤ 1000
theorem form_pack {c : Nat} (hc : c < 9223372036854775808) (hf : finP c) (h0 : c ≠ 0) (t1 : TextsR c 1) (t3 : TextsR c 3) (t2 : TextsR c 2) : ∃ H X W R p m e, FormP (textT c 1) (textT c 3) (textT c 2) H X W R p m e := by
  have l1 := textT_len (b := c) 1 hf
  have l3 := textT_len (b := c) 3 hf
  rw [textT_low hc] at l1 l3
  rw [textT_low hc, textT_low hc, textT_low hc]
  unfold TextsR at t1 t2 t3
  rw [Nat.mod_eq_of_lt hc] at t1 t2 t3
  unfold sizeT at *
  rw [if_neg h0] at *
  obtain ⟨d, x, m, e, a1, a2, a3, hm, hl, x1, x2, e1, e2⟩ := forms_of (t1 h0) (t3 h0) (t2 h0) hf
  rw [if_neg h0, if_neg h0]
  rw [a1] at l1
  rw [a2] at l3
  rw [a1, a2, a3]
  obtain ⟨p, hp⟩ : ∃ p, p = ((Lib.decDigits d).length : Int) + x := ⟨_, rfl⟩
  have hn := List.length_pos_iff.2 (dec_ne_nil d)
  rw [← hp] at l1 l3 ⊢
  have hsh : ∀ q : Prop, shortL (Lib.decDigits d) p = if p < -5 ∨ 21 < p then sciL (Lib.decDigits d) p else laidL (Lib.decDigits d) p := fun _ => rfl
  have hcut : fstS 101 (sciL (Lib.decDigits d) p) = mantL (Lib.decDigits d) ∧ sndS 101 (sciL (Lib.decDigits d) p) = expL (p - 1) := by
    rw [sci_cut]
    exact cutS_at (mant_no (dec_digit d) (by decide))
  by_cases hp1 : p < -5 ∨ 21 < p
  · exact ⟨_, _, [], [], p, m, e, hcut, l3, l1, mantF hm hl, expF _ (by omega) (by omega), fun _ => by rw [hsh True, if_pos hp1], fun h => absurd hp1 h, rfl, e1, e2, by omega, by omega⟩
  · obtain ⟨W, R, hP⟩ := plainF (d := d) (p := p) hm hl (by omega) (by omega)
    exact ⟨_, _, W, R, p, m, e, hcut, l3, l1, mantF hm hl, expF _ (by omega) (by omega), fun h => absurd h hp1, fun _ => by rw [hsh True, if_neg hp1]; exact hP, rfl, e1, e2, by omega, by omega⟩
set_option maxRecDepth 100000 in
set_option maxHeartbeats 8000000 in
theorem forms_walk (b : Nat) (w : World) (hb : b < 18446744073709551616) (hS : Std w) : Calls Tryz.prog 3 #[.int .u64 b] w fun e w' => e = .returned (.bool true) ∧ Below w.heap.size w w' := by
  have hfi := fun w => Lib.hid (finite_any b w hb)
  have hT := fun b m w hb h hS => Lib.hid (text_fin b m w hb h hS)
  have hal := fun w hS => Lib.hid (alive_ok w hS)
  have hclr := clear63 (finB b) (finB_lt hb)
  obtain ⟨c, hc⟩ : ∃ c, c = finB b % 9223372036854775808 := ⟨_, rfl⟩
  rw [← hc] at hclr
  have hcl : c < 9223372036854775808 := by omega
  have hcf : Fin64 c := ⟨by omega, by have := finB_fin b; unfold finP at *; omega⟩
  have h12 : 1 ≤ 1 ∧ 1 < 4 := by decide
  have h22 : 1 ≤ 2 ∧ 2 < 4 := by decide
  have h32 : 1 ≤ 3 ∧ 3 < 4 := by decide
  clear hc
  generalize finB b = x at *
  have HCL := Lib.hid hcl
  clear hcl
  go_enter Tryz.func3, Tryz.ntmps3
  go_upto_if 49 with (first
    | (go_at_call 7; refine (hfi _).out.mono ?_; rintro e w1 ⟨rfl, hw1⟩; rw [hw1]; clear hw1)
    | (go_at_call 8; refine (hT _ _ _ (by assumption) (by assumption) (by assumption)).out.mono ?_; rintro e w3 ⟨⟨rfl, hz, hzl⟩, hbz⟩; have hSb := Std.below (by assumption) hbz)
    | (go_at_call 9; refine (hal _ (by assumption)).out.mono ?_; rintro e w2 ⟨rfl, hbw⟩; have hSe := Std.below (by assumption) hbw)
    | fail)
  rename_i wA bA zA lA sA wB bB zB lB sB _ _
  have hB := below4 bA bB hbz hbw
  by_cases hc0 : c = 0
  · have hl1 : (B (textT c 1)).toList = [48] := by rw [textT_low HCL.out, B_list]; unfold sizeT; rw [if_pos hc0]; rfl
    have hl3 : (B (textT c 3)).toList = [48, 101, 43, 48, 48] := by rw [textT_low HCL.out, B_list]; unfold sizeT; rw [if_pos hc0]; rfl
    have hl2 : (B (textT c 2)).toList = [48, 120, 48, 112, 43, 48] := by rw [textT_low HCL.out, B_list]; unfold sizeT; rw [if_pos hc0]; rfl
    have hc0i : (c : Int) = 0 := by omega
    clear hc0
    go_wp2_with fail
    go_ret
    exact ⟨rfl, hB⟩
  · obtain ⟨H, X, W, R, p, m, e, HF⟩ := form_pack HCL.out hcf.fin hc0 zA zB hz
    have hc0i : ¬ (c : Int) = 0 := by omega
    clear hc0 hfi hT hal hclr hcf h12 h22 h32 bA zA lA sA bB zB lB sB hbz hz hzl hSb hbw hSe HCL
    generalize textT c 1 = S at *
    generalize textT c 3 = T at *
    generalize textT c 2 = U at *
    have HF := Lib.hid HF
    have hcut := cutS_any T 101 w2 (Nat.le_trans HF.out.tle (by decide))
    rw [HF.out.tcut.1, HF.out.tcut.2] at hcut
    have HC := Lib.hid hcut
    clear hcut
    go_upto_region 10 with (first
      | (go_at_call 10; refine HC.out.mono ?_; rintro e w1 ⟨rfl, hb1⟩)
      | fail)
    go_cut [100] (fun s W => s = .bool false ∧ W = w1)
    case first =>
      have hm := HF.out.mant
      have hs := B_size H
      obtain ⟨q1, q2, ⟨y, q3, q4, q5⟩, q6, q7, q8⟩ := hm
      obtain ⟨h0, g0⟩ := getB_of q3
      have g1 : ¬ (((B H)[0]'h0).toNat : Int) < 49 := by rw [g0]; omega
      have g2 : ¬ 57 < (((B H)[0]'h0).toNat : Int) := by rw [g0]; omega
      have g3 : ¬ (H.length : Int) < 1 := by omega
      clear HF HC g0 q3
      by_cases hn : 1 < H.length
      · obtain ⟨h1, g4⟩ := getB_of (q7 hn)
        have g5 : (((B H)[1]'h1).toNat : Int) = 46 := by rw [g4]; rfl
        have g6 : ¬ (H.length : Int) < 3 := by omega
        have g9 : 1 < (H.length : Int) := by omega
        have h2 : H.length - 1 < (B H).size := by omega
        have g7 : ¬ (((B H)[H.length - 1]'h2).toNat : Int) = 48 := fun he => q8 hn (by
          rw [getB H (H.length - 1) (by omega) h2] at he
          rw [List.getElem?_eq_getElem (by omega : H.length - 1 < H.length)]
          exact congrArg some (u8_eq.1 he))
        clear q7 q8 g4
        as_aux_lemma =>
          go_wp2_with fail
          go_meet
          case rel =>
            refine ⟨?_, rfl⟩
            refine congrArg Value.bool ?_
            repeat' (first | rfl | refine or_f ?_ ?_ | exact dec_f (by omega) | exact beq_f (by omega) | exact and_l (dec_f (by omega)) | exact and_l (beq_f (by omega)) | exact and_r (dec_f (by omega)) | exact and_r (beq_f (by omega)))
      · have hz : (H.length : Int) = 1 := by omega
        have hz2 : ¬ 1 < (H.length : Int) := by omega
        as_aux_lemma =>
          go_wp2_with fail
          go_meet
          case rel =>
            refine ⟨?_, rfl⟩
            refine congrArg Value.bool ?_
            repeat' (first | rfl | refine or_f ?_ ?_ | exact dec_f (by omega) | exact beq_f (by omega) | exact and_l (dec_f (by omega)) | exact and_l (beq_f (by omega)) | exact and_r (dec_f (by omega)) | exact and_r (beq_f (by omega)))
    case rest =>
      obtain ⟨rfl, rfl⟩ := hcut
      go_upto_region 12 with (fail)
      go_cut [127] (fun s W => s = .bool false ∧ W = wc)
      case first =>
        have hx := HF.out.exp
        have hs := B_size X
        obtain ⟨q1, q2, q3, q4, q5, q6, q7⟩ := hx
        have g3 : ¬ (X.length : Int) < 3 := by omega
        have gz : ((B X).toList == [45, 48, 48]) = false := by rw [B_list]; simpa using q5
        have hX0 : ∃ h' : 0 < (B X).size, (((B X)[0]'h').toNat : Int) = 43 ∨ (((B X)[0]'h').toNat : Int) = 45 := by
          rcases q3 with ⟨q3, _⟩ | ⟨q3, _⟩
          · obtain ⟨h', e⟩ := getB_of q3
            exact ⟨h', .inl (by rw [e]; rfl)⟩
          · obtain ⟨h', e⟩ := getB_of q3
            exact ⟨h', .inr (by rw [e]; rfl)⟩
        have hX1 : (X.length : Int) ≤ 3 ∨ (3 < (X.length : Int) ∧ ∃ h' : 1 < (B X).size, ¬ (((B X)[1]'h').toNat : Int) = 48) := by
          by_cases h : 3 < X.length
          · have hb : 1 < (B X).size := by omega
            refine .inr ⟨by omega, hb, fun he => q4 h ?_⟩
            rw [getB X 1 (by omega) hb] at he
            rw [List.getElem?_eq_getElem (by omega : 1 < X.length)]
            exact congrArg some (u8_eq.1 he)
          · exact .inl (by omega)
        clear q1 q2 q3 q4 q5 q6 q7 HC
        obtain ⟨hx0, hX0⟩ := hX0
        rcases hX0 with hX0 | hX0
        all_goals rcases hX1 with hX1 | ⟨hX1, hx1, hX1'⟩
        all_goals as_aux_lemma =>
          go_wp2_with fail
          go_meet
          case rel =>
            refine ⟨?_, rfl⟩
            refine congrArg Value.bool ?_
            repeat' (first | rfl | refine or_f ?_ ?_ | exact dec_f (by omega) | exact beq_f (by omega) | exact and_l (dec_f (by omega)) | exact and_l (beq_f (by omega)) | exact and_r (dec_f (by omega)) | exact and_r (beq_f (by omega)))
      case rest =>
        obtain ⟨rfl, rfl⟩ := hcut
        obtain ⟨e1, e2⟩ := And.intro HF.out.exp HF.out.p1
        have hp2 := HF.out.p2
        have hXs := B_size X
        obtain ⟨v, hv⟩ : ∃ v, v = valL (X.drop 1) := ⟨_, rfl⟩
        have hvb : v ≤ 1001 := by
          have := e1.value
          rw [← hv] at this
          split at this <;> omega
        have HE := Lib.hid e1
        have HV := Lib.hid hv
        have hXl := e1.le
        have hXm := e1.len
        clear e1 e2 hv hp2
        go_wp2_with fail
        go_loopw [11, 12] (fun a i wr => ∃ n k : Nat, i = .int .i64 n ∧ 1 ≤ n ∧ n ≤ X.length ∧ a = .int .i64 k ∧ Hid (k = valL ((X.take n).drop 1)) ∧ k ≤ 1001 ∧ wr = wc) (fun _ i _ => ((X.length : Int) - intOf i).toNat)
        case atStart => exact ⟨1, 0, rfl, by omega, by omega, rfl, Lib.hid (by rw [List.drop_take]; simp [valL]), by omega, rfl⟩
        case round =>
          obtain ⟨n, k, rfl, hn1, hn2, rfl, hk, hk2, rfl⟩ := hrel
          by_cases hlt : n < X.length
          · have hlt2 : (n : Int) < X.length := by omega
            have hlt3 : n < (B X).size := by omega
            have hd := HE.out.digs (X[n]'hlt) (by rw [List.mem_drop_iff_getElem]; exact ⟨n - 1, by omega, by congr 1; omega⟩)
            have hg := getB X n hlt hlt3
            obtain ⟨y, hy⟩ : ∃ y, y = (X[n]'hlt).toNat := ⟨_, rfl⟩
            have hyv : (((B X)[n]'hlt3).toNat : Int) = (y : Int) := by rw [hg, hy]
            have d1 : ¬ (y : Int) < 48 := by rw [hy]; have := hd.1; omega
            have d2 : ¬ 57 < (y : Int) := by rw [hy]; have := hd.2; omega
            have hkn : 10 * k + (y - 48) = valL ((X.take (n + 1)).drop 1) := by
              rw [List.take_succ_eq_append_getElem hlt, List.drop_append_of_le_length (by rw [List.length_take]; omega), valL_append, ← hk.out, List.length_singleton]
              have : valL [X[n]'hlt] = y - 48 := by show 10 * 0 + ((X[n]'hlt).toNat - 48) = _; rw [hy]; omega
              rw [this]
              omega
            have hkb : 10 * k + (y - 48) ≤ 1001 := by
              have h1 : X.drop 1 = (X.take (n + 1)).drop 1 ++ X.drop (n + 1) := by
                rw [← List.drop_append_of_le_length (by rw [List.length_take]; omega), List.take_append_drop]
              have h2 := HV.out
              rw [h1, valL_append, ← hkn] at h2
              have h3 : (10 * k + (y - 48)) * 1 ≤ (10 * k + (y - 48)) * 10 ^ (X.drop (n + 1)).length := Nat.mul_le_mul_left _ (Nat.pow_pos (by decide))
              omega
            have HKN := Lib.hid hkn
            have HY := Lib.hid (And.intro hy hg)
            clear hkn hg hy hd HE
            go_wp2_with fail
            refine ⟨⟨n + 1, 10 * k + (y - 48), by rw [Int.natCast_add]; rfl, by omega, by omega, by congr 1; omega, Lib.hid HKN.out, hkb, trivial⟩, ?_⟩
            show ((X.length : Int) - ((n : Int) + 1)).toNat < ((X.length : Int) - (n : Int)).toNat
            omega
          · have hlt2 : ¬ (n : Int) < X.length := by omega
            obtain rfl : n = X.length := by omega
            have hkv : (k : Int) = if p - 1 < 0 then -(p - 1) else p - 1 := by
              have := HE.out.value
              rw [hk.out, List.take_length]
              exact this
            have HK := Lib.hid hkv
            clear hk hkv
            have HP1 := HF.out.p1
            have HP2 := HF.out.p2
            go_upto_if 154 with (fail)
            go_cut [11] (fun s W => s = .int .i64 (p - 1) ∧ W = wr)
            case first =>
              rcases HE.out.sign with ⟨q, hq⟩ | ⟨q, hq⟩
              · obtain ⟨h', e'⟩ := getB_of q
                have q0 : (((B X)[0]'h').toNat : Int) = 43 := by rw [e']; rfl
                have hkv := HK.out
                rw [if_neg (by omega)] at hkv
                clear HK
                clear q e'
                go_wp2_with fail
                go_meet
                case rel => exact ⟨by rw [hkv], rfl⟩
              · obtain ⟨h', e'⟩ := getB_of q
                have q0 : (((B X)[0]'h').toNat : Int) = 45 := by rw [e']; rfl
                have hkv := HK.out
                rw [if_pos (by omega)] at hkv
                clear HK
                clear q e'
                go_wp2_with fail
                go_meet
                case rel => exact ⟨by congr 1 <;> omega, rfl⟩
            case rest =>
              obtain ⟨rfl, rfl⟩ := hcut
              clear HK HE HV hvb
              have hex := HF.out.hex
              have hhx := fun w => Lib.hid (hexed_any m e w HF.out.e1 HF.out.e2)
              rw [← hex] at hhx
              by_cases hfar : p < -5 ∨ 21 < p
              · obtain rfl := HF.out.far hfar
                have hp1 : p - 1 + 1 = p := by omega
                clear hex
                rcases hfar with hf1 | hf1
                · go_wp2_with (first
                    | (go_at_call 11; refine (hhx _).out.mono ?_; rintro e w1 ⟨rfl, hb2⟩)
                    | fail)
                  go_ret
                  exact ⟨rfl, below3 hB hb1 hb2⟩
                · have hf0 : ¬ p < -5 := by omega
                  go_wp2_with (first
                    | (go_at_call 11; refine (hhx _).out.mono ?_; rintro e w1 ⟨rfl, hb2⟩)
                    | fail)
                  go_ret
                  exact ⟨rfl, below3 hB hb1 hb2⟩
              · have hPF := HF.out.near hfar
                have hf0 : ¬ p < -5 := by omega
                have hf1 : ¬ 21 < p := by omega
                have hp1 : p - 1 + 1 = p := by omega
                have hcut := fun w => cutS_any S 46 w (Nat.le_trans HF.out.sle (by decide))
                rw [hPF.cut.1, hPF.cut.2] at hcut
                have HC2 := fun w => Lib.hid (hcut w)
                clear hcut hex
                have HPF := Lib.hid hPF
                clear hPF hfar
                go_upto_region 27 with (first
                  | (go_at_call 10; refine (HC2 _).out.mono ?_; rintro e w1 ⟨rfl, hb2⟩)
                  | fail)
                go_cut [222] (fun s W => s = .bool false ∧ W = w1)
                case first =>
                  obtain ⟨_, s1, s2, ⟨q1, q2⟩, q3, q4, q5, q6, q7, q8, _⟩ := HPF.out
                  have hsS := B_size S
                  have hsW := B_size W
                  have hsR := B_size R
                  have gl : (W.length : Int) ≤ 1 ∨ (1 < (W.length : Int) ∧ ∃ h' : 0 < (B W).size, ¬ (((B W)[0]'h').toNat : Int) = 48) := by
                    by_cases h : 1 < W.length
                    · have hb : 0 < (B W).size := by omega
                      refine .inr ⟨by omega, hb, fun he => q4 h ?_⟩
                      rw [getB W 0 (by omega) hb] at he
                      rw [List.getElem?_eq_getElem (by omega : 0 < W.length)]
                      exact congrArg some (u8_eq.1 he)
                    · exact .inl (by omega)
                  have gp : (0 < p ∧ ¬ p ≤ 0 ∧ (W.length : Int) = p) ∨ (p ≤ 0 ∧ ¬ 0 < p ∧ (B W).toList = [48] ∧ (W.length : Int) = 1) := by
                    by_cases h : 0 < p
                    · exact .inl ⟨h, by omega, q5 h⟩
                    · exact .inr ⟨by omega, h, by rw [B_list]; exact q6 (by omega), by rw [q6 (by omega)]; rfl⟩
                  have gs : ∃ h' : S.length - 1 < (B S).size, ¬ (((B S)[S.length - 1]'h').toNat : Int) = 46 := by
                    have hb : S.length - 1 < (B S).size := by omega
                    refine ⟨hb, fun he => q8 ?_⟩
                    rw [getB S (S.length - 1) (by omega) hb] at he
                    rw [List.getElem?_eq_getElem (by omega : S.length - 1 < S.length)]
                    exact congrArg some (u8_eq.1 he)
                  have gr : (B R).toList = [] ∨ (¬ (B R).toList = [] ∧ 1 ≤ (R.length : Int) ∧ ∃ h' : R.length - 1 < (B R).size, ¬ (((B R)[R.length - 1]'h').toNat : Int) = 48) := by
                    rw [B_list]
                    by_cases h : R = []
                    · exact .inl h
                    · have hp := List.length_pos_iff.2 h
                      have hb : R.length - 1 < (B R).size := by omega
                      refine .inr ⟨h, by omega, hb, fun he => q7 h ?_⟩
                      rw [getB R (R.length - 1) (by omega) hb] at he
                      rw [List.getElem?_eq_getElem (by omega : R.length - 1 < R.length)]
                      exact congrArg some (u8_eq.1 he)
                  clear q4 q5 q6 q7 q8 HPF HC2 HC hhx HF
                  obtain ⟨hs1, hs2⟩ := gs
                  rcases gl with gl | ⟨gl, gl1, gl2⟩
                  all_goals rcases gp with ⟨gp1, gp2, gp3⟩ | ⟨gp1, gp2, gp3, gp4⟩
                  all_goals rcases gr with gr | ⟨gr, gr0, gr1, gr2⟩
                  all_goals first
                    | (exfalso; omega)
                    | as_aux_lemma =>
                        go_wp2_with fail
                        go_meet
                        case rel =>
                          refine ⟨?_, rfl⟩
                          refine congrArg Value.bool ?_
                          repeat' (first | rfl | refine or_f ?_ ?_ | exact dec_f (by omega) | exact beq_f (by omega) | exact and_l (dec_f (by omega)) | exact and_l (beq_f (by omega)) | exact and_r (dec_f (by omega)) | exact and_r (beq_f (by omega)))
                case rest =>
                  obtain ⟨rfl, rfl⟩ := hcut
                  have hsS := B_size S
                  have hSd := Lib.hid HPF.out.digs
                  have hSl := HPF.out.le
                  clear HPF HC2 HC HF hf0 hf1 hp1
                  go_wp2_with fail
                  go_loopw [15] (fun i wr => ∃ n : Nat, i = .int .i64 n ∧ n ≤ S.length ∧ wr = wc) (fun i _ => ((S.length : Int) - intOf i).toNat)
                  case atStart => exact ⟨0, rfl, Nat.zero_le _, rfl⟩
                  case round =>
                    obtain ⟨n, rfl, hn, rfl⟩ := hrel
                    by_cases hlt : n < S.length
                    · have hlt2 : (n : Int) < S.length := by omega
                      have hlt3 : n < (B S).size := by omega
                      have hd := hSd.out (S[n]'hlt) (List.getElem_mem hlt)
                      have hg := getB S n hlt hlt3
                      have hdd : (((B S)[n]'hlt3).toNat : Int) = 46 ∨ (¬ (((B S)[n]'hlt3).toNat : Int) = 46 ∧ ¬ (((B S)[n]'hlt3).toNat : Int) < 48 ∧ ¬ 57 < (((B S)[n]'hlt3).toNat : Int)) := by
                        rw [hg]
                        rcases hd with hd | hd
                        · exact .inl (by rw [hd]; rfl)
                        · have h1 := hd.1
                          have h2 := hd.2
                          exact .inr ⟨by omega, by omega, by omega⟩
                      clear hd hg
                      rcases hdd with hdd | ⟨hd1, hd2, hd3⟩
                      all_goals
                        go_wp2_with fail
                        refine ⟨⟨n + 1, by rw [Int.natCast_add]; rfl, hlt, trivial⟩, ?_⟩
                        show ((S.length : Int) - ((n : Int) + 1)).toNat < ((S.length : Int) - (n : Int)).toNat
                        omega
                    · have hlt2 : ¬ (n : Int) < S.length := by omega
                      go_wp2_with (first
                        | (go_at_call 11; refine (hhx _).out.mono ?_; rintro e w1 ⟨rfl, hb3⟩)
                        | fail)
                      go_ret
                      exact ⟨rfl, below4 hB hb1 hb2 hb3⟩
end Go.Proofs.YtjdelpelnjhidaaGreatDoor.Pl
