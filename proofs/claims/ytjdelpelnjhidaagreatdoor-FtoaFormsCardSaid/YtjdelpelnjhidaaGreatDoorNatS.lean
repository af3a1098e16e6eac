/- nat: a product by a power of two. -/
import Derived.Test.YtjdelpelnjhidaaGreatDoorNatM
import Derived.Deep.RegionLaw
import Derived.Deep.Cut
namespace Go.Proofs.YtjdelpelnjhidaaGreatDoor.Pl
open Go.RowKit
/-- the words of a product by a power of two, before the shift by less than a word -/
theorem splice_zeros (q : Nat) (X : List Nat) : splice (List.replicate (q + X.length + 1) 0) q X = List.replicate q 0 ++ X ++ [0] := by
  unfold splice
  rw [List.take_replicate, List.drop_replicate, show min q (q + X.length + 1) = q by omega, show q + X.length + 1 - (q + X.length) = 1 by omega, List.append_assoc]
  rfl
theorem val_zeros (q : Nat) (X : List Nat) : val (List.replicate q 0 ++ X ++ [0]) = val X * 2 ^ (64 * q) := by
  rw [val_append, val_append, val_replicate, List.length_replicate, pow64]
  simp only [val]
  rw [Nat.mul_comm (val X)]
  omega
theorem shl_zeros {q k : Nat} {X O : List Nat} (hO : O = List.replicate q 0 ++ X ++ [0]) (hk : k < 64) : val (shlL k 0 O) = val X * 2 ^ (64 * q + k) := by
  have h1 := shlL_val (n := k) (by omega) 0 O
  have h2 : shlC k 0 O = 0 := by rw [hO, shlC_append]; simp [shlC]
  rw [h2, hO, val_zeros] at h1
  rw [hO, Nat.pow_add, ← Nat.mul_assoc]
  omega
/-- a list whose words from q + 1 on are shifted, and that has zeros below q: shifted at q, it is shifted whole -/
theorem shl_whole {q k x : Nat} {O out : List Nat} (hz : ∀ j, j < q → O[j]? = some 0) (hx : O[q]? = some x) (hl : out.length = O.length) (hlow : ∀ j, j ≤ q → out[j]? = O[j]?) (hup : ∀ j, q < j → out[j]? = (shlL k 0 O)[j]?) : out.set q (x * 2 ^ k % 18446744073709551616) = shlL k 0 O := by
  apply List.ext_getElem?
  intro j
  have hq := (List.getElem?_eq_some_iff.1 hx).1
  rcases Nat.lt_trichotomy j q with h | h | h
  · rw [List.getElem?_set_ne (by omega), hlow j (by omega), hz j h, shlL_get k 0 O j 0 (hz j h)]
    by_cases h0 : j = 0
    · simp [h0]
    · have h1 := hz (j - 1) (by omega)
      rw [if_neg h0, List.getD_eq_getElem?_getD, h1]
      simp
  · subst h
    rw [List.getElem?_set_self (by omega), shlL_get k 0 O j x hx]
    by_cases h0 : j = 0
    · simp [h0]
    · have h1 := hz (j - 1) (by omega)
      rw [if_neg h0, List.getD_eq_getElem?_getD, h1]
      simp
  · rw [List.getElem?_set_ne (by omega), hup j h]
set_option maxRecDepth 100000 in
set_option maxHeartbeats 4000000 in
theorem shl_any (u : Value) (x : List Nat) (s : Nat) (w : World) (hx : Wx w u x) (hlx : x.length ≤ 17592186044416) (hbits : bl (val x) + s ≤ 262144) : Calls Tryz.prog 100 #[u, .int .i64 s] w fun e w' => (∃ z, e = .returned (.tuple #[z, .int .i64 0]) ∧ Wx w' z (ws (val x * 2 ^ s))) ∧ Below w.heap.size w w' := by
  obtain ⟨n, hn⟩ : ∃ n, n = size x := ⟨_, rfl⟩
  have HN := Lib.hid (size_any u x w hx)
  rw [← hn] at HN
  have hnl := size_le x
  rw [← hn] at hnl
  have hxw := hx.1
  have ht1 := take_size hxw
  rw [← hn] at ht1
  have hz1 := size_ws hxw
  rw [← hn] at hz1
  obtain ⟨A, c, rfl, hc, hcx⟩ := hx.view
  have hX := hx.cut n c hnl (by omega)
  rw [ht1] at hX
  clear ht1 hcx
  have hs0 : ¬ (s : Int) < 0 := by omega
  by_cases h0 : n = 0
  · have hv0 : val x = 0 := size_zero (hn.symm.trans h0)
    rw [hv0, Nat.zero_mul, ws_zero]
    clear hn hz1 hv0
    have h1 : ((n : Int) == 0) = true := by simp [h0]
    go_enter Tryz.func100, Tryz.ntmps100
    go_wp2_with (first | (refine HN.out.mono ?_; rintro e w' ⟨rfl, rfl⟩) | fail)
    go_ret2
    exact ⟨⟨_, rfl, Wd.nil _ _⟩, Below.refl _ _⟩
  · obtain ⟨X, hXX⟩ : ∃ X, X = ws (val x) := ⟨_, rfl⟩
    rw [← hXX] at hX hz1
    have hvX : val X = val x := by rw [hXX, val_ws]
    rw [← hvX] at hbits
    rw [← hvX]
    have hn1 : ¬ (n : Int) = 0 := by omega
    have hn2 : ((n : Int) == 0) = false := by simpa using h0
    have hn4 : n ≤ 4096 := by
      have h1 := len_bits_pos (n := val x) (fun e => h0 (by rw [hz1, hXX, e, ws_zero]; rfl))
      rw [← hXX, ← hz1, ← hvX] at h1
      omega
    have hprod : (ws (val X * 2 ^ s)).length ≤ 4096 := by
      refine ws_len_bits ?_
      rw [bl_shift s (fun e => h0 (by rw [hz1, hXX, ← hvX, e, ws_zero]; rfl))]
      omega
    clear hXX hn hvX
    obtain ⟨b1, hb1⟩ : ∃ b, b = bl (val X) := ⟨_, rfl⟩
    have HB1 := fun w hx => Lib.hid (bits_any (.slice A n c) X w hx (by omega))
    rw [← hb1] at HB1
    rw [← hb1] at hbits
    clear hb1
    obtain ⟨p1, o1, rfl, hp1, hcX⟩ := hX.at (by intro e; rw [e] at hz1; exact h0 hz1)
    have hXw := hX.1
    obtain ⟨q, hq⟩ : ∃ q, q = s / 64 := ⟨_, rfl⟩
    obtain ⟨k, hk⟩ : ∃ k, k = s % 64 := ⟨_, rfl⟩
    have HS := Lib.hid (show s = 64 * q + k by omega)
    have hk64 : k < 64 := by omega
    have hqi : (s : Int) / 64 = (q : Int) := by omega
    have hki : (s : Int) % 64 = (k : Int) := by omega
    have hsb : (s : Int) ≤ 262144 - (b1 : Int) := by omega
    have hq4 : q ≤ 4096 := by omega
    have HX1 := Lib.hid hz1
    clear hz1 hq hk
    obtain ⟨w3, hmk, hg3, hb3⟩ := make_words (q + n + 1) w (by omega)
    rw [show ((q + n + 1 : Nat) : Int) = (q : Int) + n + 1 by omega] at hmk
    have hcapq : ¬ q + n + 1 = q := by omega
    have hcapq2 : ¬ ((q : Int) + n + 1 = q) := by omega
    have HG3 := Lib.hid hg3
    clear hg3
    have hX3 := hX.below hb3
    go_enter Tryz.func100, Tryz.ntmps100
    go_wp2_with (first | (go_at_call 117; refine HN.out.mono ?_; rintro e w' ⟨rfl, rfl⟩) | (go_at_call 118; refine (HB1 _ (by assumption)).out.mono ?_; rintro e w' ⟨rfl, rfl⟩) | ((with_reducible show wpList _ _ _ (⟨some 38, _, _, _, _, _⟩ :: _) _ _); (refine list_copyW (o := ⟨some 38, _, _, _, _, _⟩) rfl (.tmp 36) (.tmp 37) rfl (by exact rfl) (by exact rfl) hX3 (T := 22) HG3.out n (by rw [← HX1.out]; show n = min n _; omega) (by simp) ?_; intro w4 hg4 hb4)) | fail)
    · obtain ⟨O, hO⟩ : ∃ O, O = splice (List.replicate (q + n + 1) 0) q (X.take n) := ⟨_, rfl⟩
      have hOz : O = List.replicate q 0 ++ X ++ [0] := by rw [hO, HX1.out, List.take_length, splice_zeros]
      rw [← hO] at hg4
      have hOw : W64 O := by rw [hOz]; exact ((W64.replicate q).append hXw).append (W64.replicate 1)
      have hOl : O.length = q + n + 1 := by rw [hOz, HX1.out]; simp; omega
      have hvF := shl_zeros hOz hk64
      obtain ⟨F, hF⟩ : ∃ F, F = shlL k 0 O := ⟨_, rfl⟩
      have hFw : W64 F := by rw [hF]; exact shlL_w (by omega) (Nat.two_pow_pos k) hOw
      have hFl : F.length = q + n + 1 := by rw [hF, shlL_length, hOl]
      have hFg : Hid (∀ i a b, O[i]? = some b → O[i + 1]? = some a → F[i + 1]? = some (a * 2 ^ k % 18446744073709551616 + b / 2 ^ (64 - k))) := Lib.hid fun i a b h1 h2 => by
        rw [hF, shlL_get k 0 O _ _ h2, if_neg (by omega), Nat.add_sub_cancel, List.getD_eq_getElem?_getD, h1]; rfl
      have HOZ := Lib.hid hOz
      have HVF := Lib.hid hvF
      have HF := Lib.hid hF
      clear hO hOz hvF hF
      rw [hki, show decide (0 < k) = true from decide_eq_true (by assumption)]
      go_loopw [8] (fun i wr => ∃ (m : Nat) (out : List Nat), i = .int .i64 m ∧ q ≤ m ∧ m ≤ q + n ∧ out.length = q + n + 1 ∧ Ar wr w'.heap.size 22 out ∧ (∀ j, j ≤ m → out[j]? = O[j]?) ∧ (∀ j, m < j → out[j]? = F[j]?) ∧ Below w'.heap.size w' wr) (fun i _ => (intOf i).toNat)
      case atStart => exact ⟨q + n, O, by simp, by omega, Nat.le_refl _, hOl, hg4.out, fun j _ => rfl, fun j hj => by rw [List.getElem?_eq_none (by omega), List.getElem?_eq_none (by omega)], hb3.trans hb4⟩
      case round =>
        obtain ⟨m, out, rfl, hqm, hmn, hol, ho, hlow, hup, hbel⟩ := hrel
        by_cases hmq : q < m
        · obtain ⟨i, rfl⟩ : ∃ i, m = i + 1 := ⟨m - 1, by omega⟩
          obtain ⟨a, ha⟩ : ∃ a, O[i + 1]? = some a := ⟨_, List.getElem?_eq_getElem (by omega)⟩
          obtain ⟨b, hb⟩ : ∃ a, O[i]? = some a := ⟨_, List.getElem?_eq_getElem (by omega)⟩
          have hbw := hOw.get hb
          have hca := ho.cell ((hlow _ (Nat.le_refl _)).trans ha)
          have hcb := ho.cell ((hlow i (by omega)).trans hb)
          have hfa := ho.free (i + 1)
          obtain ⟨f, hf⟩ : ∃ f, f = a * 2 ^ k % 18446744073709551616 + b / 2 ^ (64 - k) := ⟨_, rfl⟩
          have HSH := fun W => Lib.hid (shlw_quiet a b k W hbw hk64)
          rw [← hf] at HSH
          have hFi := hFg.out i a b hb ha
          rw [← hf] at hFi
          have HFI := Lib.hid hFi
          clear hf hFi
          have hi1 : (i : Int) < (q : Int) + n := by omega
          have hi2 : i < q + n := by omega
          have hi3 : (i : Int) + 1 < (q : Int) + n + 1 := by omega
          have hi4 : (i : Int) < (q : Int) + n + 1 := by omega
          have hi5 : i + 1 < q + n + 1 := by omega
          have hi6 : i < q + n + 1 := by omega
          have hi7 : (0 : Int) ≤ (i : Int) + 1 := by omega
          have hi8 : IntKind.i64.wrap (i : Int) = i := IntWalk.i64_in _ (by omega)
          go_wp2_with fail
          go_region_law ((try go_simp); go_at_call 119; refine (HSH _).out.mono ?_; rintro e W ⟨rfl, qq, rfl⟩)
          all_goals
            go_wp2_with fail
            go_roundw
            case rel =>
              refine ⟨i, out.set (i + 1) f, by go_num, by omega, by omega, by simpa using hol, Ar.set (w := wr.drewN _) ho _ _, ?_, ?_, ?_⟩
              · intro j h1
                rw [List.getElem?_set_ne (by omega)]; exact hlow j (by omega)
              · intro j h1
                by_cases h2 : j = i + 1
                · subst h2
                  rw [List.getElem?_set_self (by omega)]; exact HFI.out.symm
                · rw [List.getElem?_set_ne (by omega)]; exact hup j (by omega)
              · exact (hbel.trans ((drewN_below _ _).mono hbel.size)).setCell (by exact Nat.le_refl _) _
            case measure => simp [intOf]
        · have hmq2 : m = q := by omega
          subst hmq2
          obtain ⟨a, ha⟩ : ∃ a, O[m]? = some a := ⟨_, List.getElem?_eq_getElem (by omega)⟩
          have hca := ho.cell ((hlow _ (Nat.le_refl _)).trans ha)
          have hfa := ho.free m
          have hk3 : (0 : Int) ≤ (k : Int) := by omega
          have hk4 : (k : Int) ≤ 64 := by omega
          obtain ⟨f, hf⟩ : ∃ f, f = a * 2 ^ k % 18446744073709551616 := ⟨_, rfl⟩
          have eW : IntKind.u64.wrap ((a : Int) * 2 ^ k) = (f : Int) := by rw [hf, IntKind.wrap_u64, Int.natCast_emod, Int.natCast_mul, Int.natCast_pow]; rfl
          have hall : out.set m f = F := by
            rw [hf, HF.out]
            refine shl_whole (fun j hj => ?_) ha (by omega) hlow (fun j hj => by rw [← HF.out]; exact hup j hj)
            rw [HOZ.out, List.append_assoc, List.getElem?_append_left (by simpa using hj), List.getElem?_replicate, if_pos hj]
          have hset := ho.set m f
          rw [hall] at hset
          have HBD := Lib.hid (bound_any (.slice (some ⟨w'.heap.size, 0, none⟩) (m + n + 1) (m + n + 1)) F (wr.setCell ⟨w'.heap.size, m, none⟩ (.int .u64 f)) (hset.wx0 hFw hFl.symm (by omega)) (by rw [HF.out, HVF.out, ← HS.out]; exact hprod))
          clear hf hall
          go_wp2_with (first | (refine HBD.out.mono ?_; rintro e w5 ⟨⟨z, rfl, hu⟩, hw5⟩) | fail)
          go_ret2
          rw [HF.out, HVF.out, ← HS.out] at hu
          subst hw5
          exact ⟨⟨z, rfl, hu⟩, hbel.setCell (Nat.le_refl _) _⟩
    · have hk0 : k = 0 := by omega
      obtain ⟨O, hO⟩ : ∃ O, O = splice (List.replicate (q + n + 1) 0) q (X.take n) := ⟨_, rfl⟩
      have hOz : O = List.replicate q 0 ++ X ++ [0] := by rw [hO, HX1.out, List.take_length, splice_zeros]
      rw [← hO] at hg4
      have hOw : W64 O := by rw [hOz]; exact ((W64.replicate q).append hXw).append (W64.replicate 1)
      have hOl : O.length = q + n + 1 := by rw [hOz, HX1.out]; simp; omega
      have hvO : val O = val X * 2 ^ s := by rw [hOz, val_zeros, HS.out, hk0, Nat.add_zero]
      have HBD := Lib.hid (bound_any (.slice (some ⟨w'.heap.size, 0, none⟩) (q + n + 1) (q + n + 1)) O w4 (hg4.out.wx0 hOw hOl.symm (by omega)) (by rw [hvO]; exact hprod))
      rw [hvO] at HBD
      clear hO hOz hvO
      refine HBD.out.mono ?_
      rintro e w5 ⟨⟨z, rfl, hu⟩, rfl⟩
      go_wp2_with fail
      go_ret2
      exact ⟨⟨z, rfl, hu⟩, hb3.trans hb4⟩
end Go.Proofs.YtjdelpelnjhidaaGreatDoor.Pl
