/- quot: quotients by one word; shifts of lists of words. -/
import Derived.Test.YtjdelpelnjhidaaGreatDoorNatS
namespace Go.Proofs.YtjdelpelnjhidaaGreatDoor.Pl
open Go.RowKit
theorem ws_len_mono {a b : Nat} (h : a ≤ b) : (ws a).length ≤ (ws b).length := ws_len_le.2 (Nat.lt_of_le_of_lt h (ws_len_le.1 (Nat.le_refl _)))
theorem div_of {X q d r : Nat} (hd : 0 < d) (h : X = q * d + r) (hr : r < d) : X / d = q ∧ X % d = r := by
  subst h
  have h1 : (q * d + r) / d = q := by rw [Nat.mul_comm, Nat.mul_add_div hd, Nat.div_eq_of_lt hr, Nat.add_zero]
  have h2 : (q * d + r) % d = r := by rw [Nat.mul_comm, Nat.mul_add_mod, Nat.mod_eq_of_lt hr]
  exact ⟨h1, h2⟩
set_option maxRecDepth 100000 in
set_option maxHeartbeats 4000000 in
theorem small_any (u : Value) (x : List Nat) (d : Nat) (w : World) (hx : Wx w u x) (hlx : x.length ≤ 17592186044416) (hd : d < 18446744073709551616) (hd0 : 0 < d) : Calls Tryz.prog 115 #[u, .int .u64 d] w fun e w' => (∃ z, e = .returned (.tuple #[z, .int .u64 (val x % d : Nat), .int .i64 0]) ∧ Wx w' z (ws (val x / d))) ∧ Below w.heap.size w w' := by
  obtain ⟨A, c, rfl, hc, hcx⟩ := hx.view
  have hxw := hx.1
  obtain ⟨n, hn⟩ : ∃ n, n = x.length := ⟨_, rfl⟩
  rw [← hn] at hc hlx
  rw [← hn] at hx
  have HN := Lib.hid hn
  have hd1 : ¬ (d : Int) = 0 := by omega
  have hd2 : ((d : Int) == 0) = false := by simpa using hd1
  obtain ⟨w1, hmk, hg1, hb1⟩ := make_words n w (by omega)
  have HG := Lib.hid hg1
  clear hg1
  rw [← hn]
  clear hn
  go_enter Tryz.func115, Tryz.ntmps115
  go_wp2_with fail
  go_loopw [9, 8] (fun i r wr => ∃ (k rest : Nat) (Q : List Nat), i = .int .i64 ((k : Int) - 1) ∧ r = .int .u64 rest ∧ k ≤ n ∧ rest < d ∧ W64 Q ∧ Q.length = n - k ∧ Ar wr w.heap.size 22 (List.replicate k 0 ++ Q) ∧ Hid (val (x.drop k) = val Q * d + rest) ∧ Below w.heap.size w wr) (fun i _ _ => (intOf i + 1).toNat)
  case atStart => exact ⟨n, 0, [], rfl, rfl, Nat.le_refl _, hd0, W64.nil, by simp, by rw [List.append_nil]; exact HG.out, Lib.hid (by rw [List.drop_eq_nil_of_le (by rw [HN.out]; exact Nat.le_refl _)]; simp [val]), hb1⟩
  case round =>
    obtain ⟨k, rest, Q, rfl, rfl, hk, hr, hQ, hQl, ho, hv, hbel⟩ := hrel
    cases k with
    | zero =>
      have hlen : (List.replicate 0 0 ++ Q).length = n := by simp; omega
      have HNR := Lib.hid (norm_wx (.slice (some ⟨w.heap.size, 0, none⟩) n n) _ wr (ho.wx0 hQ hlen.symm (by rw [hlen]; omega)) (by rw [hlen]; omega))
      clear hlen
      go_wp2_with (first | (refine HNR.out.mono ?_; rintro e w2 ⟨⟨z, rfl, hz⟩, hb2⟩) | fail)
      go_ret3
      obtain ⟨h1, h2⟩ := div_of (X := val x) hd0 (by have := hv.out; rwa [List.drop_zero] at this) hr
      rw [h1, h2]
      exact ⟨⟨z, rfl, hz⟩, hbel.trans (hb2.mono hbel.size)⟩
    | succ j =>
      obtain ⟨a, ha⟩ : ∃ a, x[j]? = some a := ⟨_, List.getElem?_eq_getElem (by have := HN.out; omega)⟩
      have haw := hxw.get ha
      obtain ⟨p, o, rfl, hp, hcel⟩ := hcx (by intro e; subst e; simp at ha)
      have hca : wr.cell? ⟨p, o + j, none⟩ = some (.int .u64 a) := (hbel.cell (by exact hp)).trans (hcel j a ha)
      have hjn : j < n := by omega
      have hget : (List.replicate (j + 1) 0 ++ Q)[j]? = some 0 := by rw [List.getElem?_append_left (by simp), List.getElem?_replicate, if_pos (by omega)]
      go_wp2_with (first
        | (go_at_call 133; refine (divw_any rest a d _ hd hr haw).mono ?_; rintro e W ⟨⟨q, r, rfl, hqr, hrd, hqw⟩, hbW⟩; have hcW := (ho.below hbW ho.lt).cell hget; have hfW := (ho.below hbW ho.lt).free j)
        | fail)
      have hoW := ho.below hbW ho.lt
      have hdr := drop_some ha
      go_roundw
      case rel =>
        refine ⟨j, r, q :: Q, by simp, rfl, by omega, hrd, W64.cons hqw hQ, by rw [List.length_cons]; omega, ?_, Lib.hid ?_, ?_⟩
        · have := hoW.set j q
          rwa [set_back] at this
        · rw [hdr, val, val]
          exact small_step hv.out hqr
        · exact (hbel.trans (hbW.mono hbel.size)).setCell (by exact Nat.le_refl _) _
      case measure => simp [intOf]
theorem or_carry {a c n : Nat} (hn : n ≤ 64) (hc : c < 2 ^ n) : bits .or .u64 ((a * 2 ^ n % 18446744073709551616 : Nat) : Int) (c : Int) = ((a * 2 ^ n % 18446744073709551616 + c : Nat) : Int) := by
  have h1 := shl_mod_le a hn
  rw [u64_or_nat _ _ (by omega) (by omega), or_shl a c n hn hc]
/-- a list shifted to the left: with one word more where there is room -/
def shlW (n words : Nat) (x : List Nat) : List Nat := if words = x.length then shlL n 0 x else shlL n 0 x ++ [shlC n 0 x]
set_option maxRecDepth 100000 in
set_option maxHeartbeats 4000000 in
theorem shlq_any (u : Value) (x : List Nat) (n words : Nat) (w : World) (hx : Wx w u x) (hlx : words ≤ 17592186044416) (hn : n < 64) (hwd : words = x.length ∨ words = x.length + 1) : Calls Tryz.prog 134 #[u, .int .i64 n, .int .i64 words] w fun e w' => e = .returned (.slice (some ⟨w.heap.size, 0, none⟩) words words) ∧ Hid (Ar w' w.heap.size 22 (shlW n words x)) ∧ Below w.heap.size w w' := by
  obtain ⟨A, c, rfl, hc, hcx⟩ := hx.view
  have hxw := hx.1
  obtain ⟨m, hm⟩ : ∃ n, n = x.length := ⟨_, rfl⟩
  rw [← hm] at hc hwd hx
  have HM := Lib.hid hm
  obtain ⟨w1, hmk, hg1, hb1⟩ := make_words words w (by omega)
  have HG := Lib.hid hg1
  clear hg1
  rw [← hm]
  have hmw : m ≤ words := by omega
  have HWD := Lib.hid hwd
  clear hm hwd
  go_enter Tryz.func134, Tryz.ntmps134
  go_wp2_with fail
  go_loopw [17, 8] (fun i cr wr => ∃ k cc : Nat, i = .int .i64 k ∧ cr = .int .u64 cc ∧ k ≤ m ∧ Hid (cc = shlC n 0 (x.take k)) ∧ Ar wr w.heap.size 22 (shlL n 0 (x.take k) ++ List.replicate (words - k) 0) ∧ Below w.heap.size w wr) (fun i _ _ => m - (intOf i).toNat)
  case atStart => exact ⟨0, 0, rfl, rfl, by omega, Lib.hid (by rw [List.take_zero]; rfl), by rw [List.take_zero]; exact HG.out, hb1⟩
  case round =>
    obtain ⟨k, cc, rfl, rfl, hk, hcc, ho, hbel⟩ := hrel
    have hlk : (shlL n 0 (x.take k)).length = k := by rw [shlL_length, List.length_take, ← HM.out]; omega
    by_cases hkm : k < m
    · obtain ⟨a, ha⟩ : ∃ a, x[k]? = some a := ⟨_, List.getElem?_eq_getElem (by have := HM.out; omega)⟩
      have haw := hxw.get ha
      obtain ⟨p, o, rfl, hp, hcel⟩ := hcx (by intro e; subst e; simp at ha)
      have hca : wr.cell? ⟨p, o + k, none⟩ = some (.int .u64 a) := (hbel.cell (by exact hp)).trans (hcel k a ha)
      obtain ⟨z, hz⟩ : ∃ z, words - k = z + 1 := ⟨words - k - 1, by omega⟩
      have hget : (shlL n 0 (x.take k) ++ List.replicate (words - k) 0)[k]? = some 0 := by rw [hz]; exact get_fill _ _ _ hlk.symm
      have hcl : cc < 2 ^ n := by rw [hcc.out]; exact shlC_lt (by omega) (Nat.two_pow_pos n) (hxw.take k)
      obtain ⟨hi, hhi⟩ : ∃ z, z = 0 * 2 ^ n % 18446744073709551616 + a / 2 ^ (64 - n) := ⟨_, rfl⟩
      obtain ⟨lo, hlo⟩ : ∃ z, z = a * 2 ^ n % 18446744073709551616 := ⟨_, rfl⟩
      obtain ⟨v, hv⟩ : ∃ z, z = lo + cc := ⟨_, rfl⟩
      have HC := fun W => Lib.hid (shlw_any 0 a n W haw hn)
      rw [← hhi, ← hlo] at HC
      have ho1 : bits .or .u64 (lo : Int) (cc : Int) = (v : Int) := by rw [hlo, or_carry (by omega) hcl, hv, hlo]
      obtain ⟨hs1, hs2⟩ := shlL_step (n := n) ha
      have hs1' : shlL n 0 (x.take (k + 1)) = shlL n 0 (x.take k) ++ [v] := by rw [hs1, hv, hlo, hcc.out]
      have hs2' : hi = shlC n 0 (x.take (k + 1)) := by rw [hs2, hhi]; simp
      have H1 := Lib.hid hs1'
      have H2 := Lib.hid hs2'
      have HZ := Lib.hid hz
      clear hhi hlo hv hs1 hs2 hs1' hs2' hz
      have hkw : k < words := by omega
      go_wp2_with (first
        | (go_at_call 119; refine (HC _).out.mono ?_; rintro e W ⟨rfl, hbW⟩; have hcW := (ho.below hbW ho.lt).cell hget; have hfW := (ho.below hbW ho.lt).free k)
        | fail)
      have hoW := ho.below hbW ho.lt
      go_roundw
      case rel =>
        refine ⟨k + 1, hi, by go_num, rfl, by omega, H2, ?_, ?_⟩
        · have := hoW.set k v
          rw [HZ.out, set_fill _ _ _ _ hlk.symm] at this
          rw [H1.out, show words - (k + 1) = z by have := HZ.out; omega]
          exact this
        · exact (hbel.trans (hbW.mono hbel.size)).setCell (by exact Nat.le_refl _) _
      case measure => simp [intOf]; omega
    · have hkm2 : k = m := by omega
      have hxt : x.take k = x := List.take_of_length_le (by have := HM.out; omega)
      rw [hxt] at ho hcc hlk
      clear hxt
      rcases HWD.out with hw1 | hw1
      · have h1 : ¬ (m : Int) < (words : Int) := by omega
        have HF := Lib.hid (show shlW n words x = shlL n 0 x ++ List.replicate (words - k) 0 by unfold shlW; rw [if_pos (by have := HM.out; omega), show words - k = 0 by omega]; simp)
        clear hkm2 hw1
        go_wp2_with fail
        go_ret
        exact ⟨rfl, Lib.hid (by rw [HF.out]; exact ho), hbel⟩
      · have h1 : (m : Int) < (words : Int) := by omega
        have h1' : m < words := by omega
        have hget : (shlL n 0 x ++ List.replicate (words - k) 0)[m]? = some 0 := by rw [show words - k = 0 + 1 by omega]; exact get_fill _ _ _ (by omega)
        have hcm := ho.cell hget
        have hfm := ho.free m
        have HF := Lib.hid (show shlW n words x = (shlL n 0 x ++ List.replicate (words - k) 0).set m cc by
          unfold shlW; rw [if_neg (by have := HM.out; omega), show words - k = 0 + 1 by omega, set_fill _ _ _ _ (by omega), hcc.out]; simp)
        clear hkm2 hw1
        go_wp2_with fail
        go_ret
        exact ⟨rfl, Lib.hid (by rw [HF.out]; exact ho.set m cc), hbel.setCell (by exact Nat.le_refl _) _⟩
set_option maxRecDepth 100000 in
set_option maxHeartbeats 4000000 in
theorem shrq_any (u : Value) (x : List Nat) (s : Nat) (w : World) (hx : Wx w u x) (hlx : x.length ≤ 17592186044416) (hs : s < 64) : Calls Tryz.prog 137 #[u, .int .i64 s] w fun e w' => (∃ z, e = .returned z ∧ Wx w' z (ws (val x / 2 ^ s))) ∧ Below w.heap.size w w' := by
  obtain ⟨A, c, rfl, hc, hcx⟩ := hx.view
  have hxw := hx.1
  obtain ⟨n, hn⟩ : ∃ n, n = x.length := ⟨_, rfl⟩
  rw [← hn] at hc hlx
  rw [← hn] at hx
  have HN := Lib.hid hn
  obtain ⟨w1, hmk, hg1, hb1⟩ := make_words n w (by omega)
  have HG := Lib.hid hg1
  clear hg1
  rw [← hn]
  clear hn
  go_enter Tryz.func137, Tryz.ntmps137
  go_wp2_with fail
  go_loopw [7, 6] (fun i r wr => ∃ k ab : Nat, i = .int .i64 ((k : Int) - 1) ∧ r = .int .u64 ab ∧ k ≤ n ∧ Hid (ab = (x.drop k).headD 0) ∧ Ar wr w.heap.size 22 (List.replicate k 0 ++ shrL s (x.drop k)) ∧ Below w.heap.size w wr) (fun i _ _ => (intOf i + 1).toNat)
  case atStart => exact ⟨n, 0, rfl, rfl, Nat.le_refl _, Lib.hid (by rw [List.drop_eq_nil_of_le (by rw [HN.out]; exact Nat.le_refl _)]; rfl), by rw [List.drop_eq_nil_of_le (by rw [HN.out]; exact Nat.le_refl _)]; rw [shrL, List.append_nil]; exact HG.out, hb1⟩
  case round =>
    obtain ⟨k, ab, rfl, rfl, hk, hab, ho, hbel⟩ := hrel
    cases k with
    | zero =>
      rw [List.drop_zero] at ho
      have hlen : (List.replicate 0 0 ++ shrL s x).length = n := by simp [shrL_length]; exact HN.out.symm
      have HNR := Lib.hid (norm_wx (.slice (some ⟨w.heap.size, 0, none⟩) n n) _ wr (ho.wx0 (shrL_w (by omega) hxw) hlen.symm (by rw [hlen]; omega)) (by rw [hlen]; omega))
      clear hlen
      go_wp2_with (first | (refine HNR.out.mono ?_; rintro e w2 ⟨⟨z, rfl, hz⟩, hb2⟩) | fail)
      go_ret
      have h1 : val (List.replicate 0 0 ++ shrL s x) = val x / 2 ^ s := shrL_val (by omega) x
      rw [h1] at hz
      exact ⟨⟨z, rfl, hz⟩, hbel.trans (hb2.mono hbel.size)⟩
    | succ j =>
      obtain ⟨a, ha⟩ : ∃ a, x[j]? = some a := ⟨_, List.getElem?_eq_getElem (by have := HN.out; omega)⟩
      have haw := hxw.get ha
      obtain ⟨p, o, rfl, hp, hcel⟩ := hcx (by intro e; subst e; simp at ha)
      have hca : wr.cell? ⟨p, o + j, none⟩ = some (.int .u64 a) := (hbel.cell (by exact hp)).trans (hcel j a ha)
      have hjn : j < n := by omega
      have hget : (List.replicate (j + 1) 0 ++ shrL s (x.drop (j + 1)))[j]? = some 0 := by rw [List.getElem?_append_left (by simp), List.getElem?_replicate, if_pos (by omega)]
      obtain ⟨f, hf⟩ : ∃ f, f = a / 2 ^ s + ab * 2 ^ (64 - s) % 18446744073709551616 := ⟨_, rfl⟩
      have HC := fun W => Lib.hid (shrw_quiet ab a s W haw hs)
      rw [← hf] at HC
      have hsd := shrL_drop (n := s) ha
      have HS := Lib.hid (show shrL s (x.drop j) = f :: shrL s (x.drop (j + 1)) by rw [hsd, hf, hab.out])
      clear hf hsd
      have HP := Lib.hid hp
      go_wp2_with (first
        | (go_at_call 146; refine (HC _).out.mono ?_; rintro e W ⟨⟨lost, rfl, _⟩, m, hm⟩; have hbW : Below wr.heap.size wr W := (by rw [hm]; exact drewN_below _ _); clear hm; have hcW := (ho.below hbW ho.lt).cell hget; have hfW := (ho.below hbW ho.lt).free j;
            have hcaW : W.cell? ⟨p, o + j, none⟩ = some (.int .u64 a) := (hbW.cell (by exact Nat.lt_of_lt_of_le HP.out hbel.size)).trans hca;
            have hcaS : (W.setCell ⟨w.heap.size, j, none⟩ (.int .u64 f)).cell? ⟨p, o + j, none⟩ = some (.int .u64 a) := (World.cell?_of_block (w := W) (heap_setCell_other W ⟨w.heap.size, j, none⟩ p (.int .u64 f) (by have := HP.out; simp; omega))).trans hcaW)
        | fail)
      have hoW := ho.below hbW ho.lt
      go_roundw
      case rel =>
        refine ⟨j, a, by simp, rfl, by omega, Lib.hid (by rw [drop_some ha]; rfl), ?_, ?_⟩
        · have := hoW.set j f
          rw [set_back] at this
          rw [HS.out]
          exact this
        · exact (hbel.trans (hbW.mono hbel.size)).setCell (by exact Nat.le_refl _) _
      case measure => simp [intOf]
end Go.Proofs.YtjdelpelnjhidaaGreatDoor.Pl
