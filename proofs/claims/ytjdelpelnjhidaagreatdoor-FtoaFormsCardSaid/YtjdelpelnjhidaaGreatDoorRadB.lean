/- radix: a number's decimal digits written; how many they are. -/
import Derived.Test.YtjdelpelnjhidaaGreatDoorRad
import Derived.BigRegion
namespace Go.Proofs.YtjdelpelnjhidaaGreatDoor.Pl
open Go.RowKit
/-- digits of base ten, the lowest first -/
def digs : Nat → Nat → List UInt8
  | 0, _ => []
  | k + 1, n => UInt8.ofNat (48 + n % 10) :: digs k (n / 10)
theorem digs_length (k n : Nat) : (digs k n).length = k := by induction k generalizing n with | zero => rfl | succ k ih => simp [digs, ih]
theorem digs_add (k m n : Nat) : digs (k + m) n = digs k n ++ digs m (n / 10 ^ k) := by
  induction k generalizing n with
  | zero => simp [digs]
  | succ k ih => rw [show k + 1 + m = (k + m) + 1 by omega, digs, digs, ih, List.cons_append, Nat.div_div_eq_div_mul, Nat.pow_succ, Nat.mul_comm 10]
theorem digs_mod (k m n : Nat) (h : k ≤ m) : digs k (n % 10 ^ m) = digs k n := by
  induction k generalizing n m with
  | zero => rfl
  | succ k ih =>
    obtain ⟨m, rfl⟩ : ∃ j, m = j + 1 := ⟨m - 1, by omega⟩
    have h1 : n % 10 ^ (m + 1) % 10 = n % 10 := by rw [Nat.pow_succ]; exact Nat.mod_mul_left_mod n (10 ^ m) 10
    have h2 : n % 10 ^ (m + 1) / 10 = n / 10 % 10 ^ m := by rw [Nat.pow_succ, Nat.mul_comm, Nat.mod_mul_right_div_self]
    rw [digs, digs, h1, h2, ih m _ (by omega)]
theorem digs_snoc (k n : Nat) : digs (k + 1) n = digs k n ++ [UInt8.ofNat (48 + n / 10 ^ k % 10)] := by rw [digs_add]; rfl
theorem digs_get {k n i : Nat} (h : i < k) : (digs k n)[i]? = some (UInt8.ofNat (48 + n / 10 ^ i % 10)) := by
  induction k generalizing n i with
  | zero => omega
  | succ k ih =>
    cases i with
    | zero => simp [digs]
    | succ i => rw [digs, List.getElem?_cons_succ, ih (by omega), Nat.div_div_eq_div_mul, Nat.pow_succ, Nat.mul_comm 10]
def digT : ByteArray := ⟨#[48, 49, 50, 51, 52, 53, 54, 55, 56, 57, 97, 98, 99, 100, 101, 102, 103, 104, 105, 106, 107, 108, 109, 110, 111, 112, 113, 114, 115, 116, 117, 118, 119, 120, 121, 122]⟩
theorem digT_all : ∀ n : Fin 10, digT[n.val]'(Nat.lt_trans n.isLt (by decide)) = UInt8.ofNat (48 + n.val) := by decide
theorem digT_at (n : Nat) (h : n < 10) : digT[n]'(Nat.lt_trans h (by decide)) = UInt8.ofNat (48 + n) := digT_all ⟨n, h⟩
theorem two_le_ten_pow (k : Nat) : 2 ^ k ≤ 10 ^ k := Nat.pow_le_pow_left (by decide) k
theorem OwnB.cut {B : Nat} {w : World} {g n cap : Nat} {l : List UInt8} (h : OwnB B w (.slice (some ⟨g, 0, none⟩) n cap) l) (m : Nat) (hm : m ≤ l.length) : OwnB B w (.slice (some ⟨g, 0, none⟩) m cap) (l.take m) := by
  have hlm : (l.take m).length = m := List.length_take_of_le hm
  obtain ⟨h1, h2⟩ := h
  unfold OwnB
  rw [hlm]
  rcases h2 with ⟨hv, _⟩ | ⟨g', cap', cur, hv, hB, hg, hn, hc, hs, ht⟩
  · cases hv
  · cases hv
    refine ⟨by rw [List.length_map, hlm, Nat.mul_one], .inr ⟨g, cap, cur, rfl, hB, hg, by omega, hc, hs, ?_⟩⟩
    rw [Nat.mul_one] at ht ⊢
    have := congrArg (List.take m) ht
    rw [List.take_take, Nat.min_eq_left hm, ← List.map_take] at this
    exact this
theorem ten_pow_bl {X k b : Nat} (h : 10 ^ k ≤ X) (hb : bl X ≤ b) : k < b := by
  apply Classical.byContradiction
  intro hc
  have h1 := bl_le_iff.1 (Nat.le_trans hb (Nat.le_of_not_lt hc))
  have h2 := two_le_ten_pow k
  omega
/-- a slice's length -/
def lenV : Value → Nat
  | .slice _ n _ => n
  | _ => 0
theorem OwnB.len {B : Nat} {w : World} {v : Value} {l : List UInt8} (h : OwnB B w v l) : lenV v = l.length := by
  rcases h.2 with ⟨rfl, hx⟩ | ⟨g, cap, cur, rfl, _⟩
  · exact hx.symm
  · rfl
/-- how many digits: nothing from place m on, and something at the place before -/
def Many (X m : Nat) : Prop := X < 10 ^ m ∧ (m = 0 ∨ 10 ^ (m - 1) ≤ X)
theorem Ar.wd0 {w : World} {b t : Nat} {l : List Nat} {ok : Nat → Prop} (h : Ar w b t l) (hw : W64 l) (hok : ok b) {n : Nat} (hn : n = l.length) (hl : l.length ≤ 140737488355328) : Wd ok w (.slice (some ⟨b, 0, none⟩) n n) l := by
  refine ⟨hw, some ⟨b, 0, none⟩, n, by rw [hn], by omega, hl, .inr ⟨b, 0, rfl, hok, fun i u hu => ?_⟩⟩
  rw [List.getElem?_map] at hu
  obtain ⟨x, hx, rfl⟩ := Option.map_eq_some_iff.1 hu
  rw [Nat.zero_add]
  exact h.cell hx
theorem norm_new (v : Value) (l : List Nat) (w : World) (h : Wx w v l) (hl : l.length ≤ 17592186044416) : Calls Tryz.prog 114 #[v] w fun e w' => (∃ u, e = .returned u ∧ Wd (fun b => w.heap.size ≤ b) w' u (ws (val l))) ∧ Below w.heap.size w w' := by
  refine (norm_any v l w h hl).mono ?_
  rintro e w' ⟨⟨n, hn, rfl⟩, hg, hb⟩
  have h1 := size_ws h.1
  have h2 := size_le l
  exact ⟨⟨_, rfl, hg.out.wd0 (ws_w _) (Nat.le_refl _) hn (by omega)⟩, hb⟩
set_option maxRecDepth 100000 in
set_option maxHeartbeats 4000000 in
theorem small_new (u : Value) (x : List Nat) (d : Nat) (w : World) (hx : Wx w u x) (hlx : x.length ≤ 17592186044416) (hd : d < 18446744073709551616) (hd0 : 0 < d) : Calls Tryz.prog 115 #[u, .int .u64 d] w fun e w' => (∃ z, e = .returned (.tuple #[z, .int .u64 (val x % d : Nat), .int .i64 0]) ∧ Wd (fun b => w.heap.size ≤ b) w' z (ws (val x / d))) ∧ Below w.heap.size w w' := by
  obtain ⟨A, c, rfl, hc, hcx⟩ := hx.view
  have hxw := hx.1
  obtain ⟨n, hn⟩ : ∃ n, n = x.length := ⟨_, rfl⟩
  rw [← hn] at hc hlx
  rw [← hn] at hx
  have HN := Lib.hid hn
  have hd1 : ¬ (d : Int) = 0 := by omega
  have hd2 : ((d : Int) == 0) = false := by simpa using hd1
  obtain ⟨w1, hmk, hg1, hb1⟩ := make_words n w (by omega)
  have HG := Lib.hid hg1
  clear hg1
  rw [← hn]
  clear hn
  go_enter Tryz.func115, Tryz.ntmps115
  go_wp2_with fail
  go_loopw [9, 8] (fun i r wr => ∃ (k rest : Nat) (Q : List Nat), i = .int .i64 ((k : Int) - 1) ∧ r = .int .u64 rest ∧ k ≤ n ∧ rest < d ∧ W64 Q ∧ Q.length = n - k ∧ Ar wr w.heap.size 22 (List.replicate k 0 ++ Q) ∧ Hid (val (x.drop k) = val Q * d + rest) ∧ Below w.heap.size w wr) (fun i _ _ => (intOf i + 1).toNat)
  case atStart => exact ⟨n, 0, [], rfl, rfl, Nat.le_refl _, hd0, W64.nil, by simp, by rw [List.append_nil]; exact HG.out, Lib.hid (by rw [List.drop_eq_nil_of_le (by rw [HN.out]; exact Nat.le_refl _)]; simp [val]), hb1⟩
  case round =>
    obtain ⟨k, rest, Q, rfl, rfl, hk, hr, hQ, hQl, ho, hv, hbel⟩ := hrel
    cases k with
    | zero =>
      have hlen : (List.replicate 0 0 ++ Q).length = n := by simp; omega
      have HNR := Lib.hid (norm_new (.slice (some ⟨w.heap.size, 0, none⟩) n n) _ wr (ho.wx0 hQ hlen.symm (by rw [hlen]; omega)) (by rw [hlen]; omega))
      clear hlen
      go_wp2_with (first | (refine HNR.out.mono ?_; rintro e w2 ⟨⟨z, rfl, hz⟩, hb2⟩) | fail)
      go_ret3
      obtain ⟨h1, h2⟩ := div_of (X := val x) hd0 (by have := hv.out; rwa [List.drop_zero] at this) hr
      rw [h1, h2]
      exact ⟨⟨z, rfl, hz.mono fun b _ h => Nat.le_trans hbel.size h⟩, hbel.trans (hb2.mono hbel.size)⟩
    | succ j =>
      obtain ⟨a, ha⟩ : ∃ a, x[j]? = some a := ⟨_, List.getElem?_eq_getElem (by have := HN.out; omega)⟩
      have haw := hxw.get ha
      obtain ⟨p, o, rfl, hp, hcel⟩ := hcx (by intro e; subst e; simp at ha)
      have hca : wr.cell? ⟨p, o + j, none⟩ = some (.int .u64 a) := (hbel.cell (by exact hp)).trans (hcel j a ha)
      have hjn : j < n := by omega
      have hget : (List.replicate (j + 1) 0 ++ Q)[j]? = some 0 := by rw [List.getElem?_append_left (by simp), List.getElem?_replicate, if_pos (by omega)]
      go_wp2_with (first
        | (go_at_call 133; refine (divw_any rest a d _ hd hr haw).mono ?_; rintro e W ⟨⟨q, r, rfl, hqr, hrd, hqw⟩, hbW⟩; have hcW := (ho.below hbW ho.lt).cell hget; have hfW := (ho.below hbW ho.lt).free j)
        | fail)
      have hoW := ho.below hbW ho.lt
      have hdr := drop_some ha
      go_roundw
      case rel =>
        refine ⟨j, r, q :: Q, by simp, rfl, by omega, hrd, W64.cons hqw hQ, by rw [List.length_cons]; omega, ?_, Lib.hid ?_, ?_⟩
        · have := hoW.set j q
          rwa [set_back] at this
        · rw [hdr, val, val]
          exact small_step hv.out hqr
        · exact (hbel.trans (hbW.mono hbel.size)).setCell (by exact Nat.le_refl _) _
      case measure => simp [intOf]
/-- words that lie apart from a slice that a call appends to -/
def Apt (v : Value) (b : Nat) : Prop := v.ownBlock ≠ some b
theorem Wd.grown {v : Value} {w w' : World} {u v' : Value} {l : List Nat} (h : Wd (Apt v) w u l) (hg : w.grownBy w' v.ownBlock) (hv : ∀ g, v'.ownBlock = some g → v.ownBlock = some g ∨ g = w.heap.size) : Wd (Apt v') w' u l := by
  have h1 : Wd (Apt v') w u l := h.mono fun b hb hok e => by
    rcases hv b e with h2 | h2
    · exact hok h2
    · omega
  have h2 : Wd (fun b => Apt v b ∧ Apt v' b) w u l := by
    obtain ⟨hw, A, c, hv1, h3, h4, hr⟩ := h
    obtain ⟨_, A', c', hv2, _, _, hr'⟩ := h1
    refine ⟨hw, A, c, hv1, h3, h4, ?_⟩
    rw [hv1] at hv2
    cases hv2
    rcases hr with hr | ⟨b, o, rfl, hb, hx⟩
    · exact .inl hr
    · rcases hr' with hr' | ⟨b', o', e, hb', _⟩
      · exact .inl hr'
      · cases e
        exact .inr ⟨b, o, rfl, ⟨hb, hb'⟩, hx⟩
  exact (h2.keeps fun b o hb ho _ => (hg.block b (lt_of_heap ho) (fun e => hb.1 e.symm)).trans ho).mono fun b _ h => h.2
set_option maxRecDepth 100000 in
set_option maxHeartbeats 8000000 in
theorem written_any (u : Value) (x : List Nat) (w : World) (hx : Wx w u x) (hlx : x.length ≤ 100000) (hbits : bl (val x) ≤ 262144) : Calls Tryz.prog 142 #[u, .int .i64 10] w fun e w' => (∃ v l, e = .returned v ∧ OwnB w.heap.size w' v l ∧ Many (val x) l.length ∧ l.length ≤ 1000000) ∧ Below w.heap.size w w' := by
  have HN := Lib.hid (norm_wx u x w hx (by omega))
  obtain ⟨X, hX⟩ : ∃ X, X = val x := ⟨_, rfl⟩
  rw [← hX] at HN hbits
  rw [← hX]
  clear hX
  have HC := fun w => Lib.hid (chunk_ten w)
  have HXL := Lib.hid (fun k (hk : 10 ^ k ≤ X) => ten_pow_bl hk hbits)
  go_enter Tryz.func142, Tryz.ntmps142
  go_wp2_with (first
    | (go_at_call 147; refine (HC _).out.mono ?_; rintro e w0 ⟨rfl, hw0⟩; subst hw0)
    | (go_at_call 114; refine HN.out.mono ?_; rintro e w1 ⟨⟨v1, rfl, hx1⟩, hb1⟩)
    | fail)
  go_loopw [0, 7] (fun xv ov wr => ∃ (t : Nat) (l : List UInt8), Wx wr xv (ws (X / 10 ^ (19 * t))) ∧ OwnB w0.heap.size wr ov l ∧ Hid (l = digs (19 * t) X) ∧ Hid (t = 0 ∨ 10 ^ (19 * (t - 1)) ≤ X) ∧ Below w0.heap.size w0 wr) (fun _ ov _ => 10000000 - lenV ov)
  case atStart =>
    refine ⟨0, [], ?_, ⟨rfl, .inl ⟨rfl, rfl⟩⟩, Lib.hid rfl, Lib.hid (.inl rfl), hb1⟩
    rw [Nat.mul_zero, Nat.pow_zero, Nat.div_one]; exact hx1
  case round =>
    obtain ⟨t, l, hxr, ho, hl, ht, hbel⟩ := hrel
    have htb : 19 * t ≤ 300000 := by
      rcases ht.out with h | h
      · omega
      · have := HXL.out _ h
        omega
    have hll : l.length = 19 * t := by rw [hl.out, digs_length]
    obtain ⟨a, ha⟩ : ∃ a, a = X / 10 ^ (19 * t) := ⟨_, rfl⟩
    rw [← ha] at hxr
    have HA := Lib.hid ha
    have hal : a ≤ X := by rw [ha]; exact Nat.div_le_self _ _
    clear ha
    have hwl : (ws a).length ≤ 17592186044416 := by
      have := ws_len_mono (a := a) (b := X) hal
      have := ws_len_bits (n := X) (k := 4096) (by omega)
      omega
    by_cases h0 : a = 0
    · have hXt : Hid (X < 10 ^ (19 * t)) := by
        have h1 := HA.out
        rw [h0] at h1
        refine Lib.hid ?_
        apply Classical.byContradiction
        intro hc
        have := (Nat.div_eq_zero_iff_lt (Nat.pow_pos (n := 19 * t) (by decide : 0 < 10))).1 h1.symm
        exact hc this
      rw [h0, ws_zero] at hxr
      obtain ⟨A, c, rfl, hc, _⟩ := hxr.view
      clear HA h0 hal
      go_wp2_with fail
      go_loopw [7] (fun ov W => ∃ m : Nat, m ≤ 19 * t ∧ OwnB w0.heap.size W ov (l.take m) ∧ Hid (X < 10 ^ m) ∧ W = wr) (fun ov _ => lenV ov)
      case atStart => exact ⟨19 * t, Nat.le_refl _, by rw [List.take_of_length_le (by omega)]; exact ho, hXt, rfl⟩
      case round =>
        obtain ⟨m, hm, hom, hXm, rfl⟩ := hrel
        have hlm : (l.take m).length = m := List.length_take_of_le (by omega)
        cases m with
        | zero =>
          rw [List.take_zero] at hom
          have hv0 := hom.len
          rcases hom.2 with ⟨rfl, _⟩ | ⟨g, cap, cur, rfl, hrest⟩
          · go_wp2_with fail
            go_ret
            exact ⟨⟨_, [], rfl, hom, ⟨hXm.out, .inl rfl⟩, by simp⟩, hbel⟩
          · go_wp2_with fail
            go_ret
            exact ⟨⟨_, [], rfl, hom, ⟨hXm.out, .inl rfl⟩, by simp⟩, hbel⟩
        | succ j =>
          obtain ⟨g, cap, rfl, _, _, hcel⟩ := hom.form (by intro e; rw [e] at hlm; simp at hlm)
          obtain ⟨d, hd⟩ : ∃ d, d = X / 10 ^ j % 10 := ⟨_, rfl⟩
          have hget : (l.take (j + 1))[j]? = some (UInt8.ofNat (48 + d)) := by
            rw [List.getElem?_take_of_lt (by omega), hl.out, digs_get (by omega), hd]
          have hdl : d < 10 := by rw [hd]; exact Nat.mod_lt _ (by decide)
          have hcj := hcel j (bv (UInt8.ofNat (48 + d))) (by rw [List.getElem?_map, hget]; rfl)
          have hbv : bv (UInt8.ofNat (48 + d)) = .int .u8 ((48 + d : Nat) : Int) := by
            unfold bv
            rw [UInt8.toNat_ofNat']
            rw [Nat.mod_eq_of_lt (by omega)]
          rw [hbv, addn, Nat.zero_add] at hcj
          have hdiv : X / 10 ^ j < 10 := by
            refine (Nat.div_lt_iff_lt_mul (Nat.pow_pos (by decide))).2 ?_
            have := hXm.out
            rw [Nat.pow_succ] at this
            omega
          rw [Nat.mod_eq_of_lt hdiv] at hd
          rw [hlm] at hom ⊢
          have hcap := hom.cut
          have HDD := Lib.hid hd
          clear hd hcel hbv hget
          by_cases hd0 : d = 0
          · subst hd0
            have hcut := (hom.cut j (by omega))
            rw [List.take_take, Nat.min_eq_left (by omega)] at hcut
            have hjc : j ≤ cap := by
              rcases hom.2 with ⟨hv, _⟩ | ⟨g', cap', cur, hv, _, _, hn, _⟩
              · cases hv
              · injection hv with _ h2 h3
                omega
            clear hcap
            go_wp2_with fail
            go_roundw
            case rel =>
              refine ⟨j, by omega, hcut, Lib.hid ?_, by trivial⟩
              apply Classical.byContradiction
              intro hc
              have h1 := (Nat.div_eq_zero_iff_lt (Nat.pow_pos (n := j) (by decide : 0 < 10))).1 HDD.out.symm
              exact hc h1
            case measure => simp [lenV]
          · have hd1 : ¬ (48 : Int) + (d : Int) = 48 := by omega
            have hd2 : ((48 : Int) + (d : Int) == 48) = false := by simp; omega
            clear hcap
            go_wp2_with fail
            go_ret
            refine ⟨⟨_, l.take (j + 1), rfl, hom, ⟨by rw [hlm]; exact hXm.out, .inr ?_⟩, by rw [hlm]; omega⟩, hbel⟩
            rw [hlm, Nat.add_sub_cancel]
            apply Classical.byContradiction
            intro hc
            have := Nat.div_eq_of_lt (Nat.lt_of_not_le hc)
            rw [← HDD.out] at this
            exact hd0 this
    · have HSM := Lib.hid (small_new _ (ws a) 10000000000000000000 wr hxr hwl (by decide) (by decide))
      simp only [val_ws] at HSM
      obtain ⟨R, hR⟩ : ∃ R, R = a % 10000000000000000000 := ⟨_, rfl⟩
      have hRl : R < 10000000000000000000 := by rw [hR]; exact Nat.mod_lt _ (by decide)
      rw [← hR] at HSM
      have HR := Lib.hid hR
      clear hR
      obtain ⟨A, c, rfl, hc, _⟩ := hxr.view
      have hn0 : ¬ (ws a).length = 0 := fun e => h0 (ws_len_zero.1 e)
      obtain ⟨n, hn⟩ : ∃ n, n = (ws a).length := ⟨_, rfl⟩
      rw [← hn] at hn0 HSM hxr hc
      rw [← hn]
      have hn1 : (0 : Int) < (n : Int) := by omega
      clear hn
      go_wp2_with (first
        | (go_at_call 115; refine HSM.out.mono ?_; rintro e w2 ⟨⟨q, he, hq⟩, hb2⟩; subst he)
        | fail)
      have hbw2 := hbel.trans (hb2.mono hbel.size)
      have ho2 := ho.below hb2 rfl
      have hqa : Wd (Apt u7) w2 q (ws (a / 10000000000000000000)) := hq.mono fun b _ h e => by
        have := (World.ownsRow.lt ho b e).2
        omega
      go_loopw [29, 7, 9] (fun i ov rv W => ∃ k r : Nat, i = .int .i64 k ∧ k ≤ 19 ∧ rv = .int .u64 r ∧ Hid (r = R / 10 ^ k) ∧ OwnB w0.heap.size W ov (l ++ digs k R) ∧ Wd (Apt ov) W q (ws (a / 10000000000000000000)) ∧ Below w0.heap.size w0 W) (fun i _ _ _ => 19 - (intOf i).toNat)
      case atStart => exact ⟨0, R, rfl, by omega, rfl, Lib.hid (by rw [Nat.pow_zero, Nat.div_one]), by rw [digs, List.append_nil]; exact ho2, hqa, hbw2⟩
      case round =>
        obtain ⟨k, r, rfl, hk, rfl, hr, hok, hqk, hbk⟩ := hrel
        by_cases hk19 : k < 19
        · have hrw : r < 18446744073709551616 := by
            have h2 := Nat.div_le_self R (10 ^ k)
            rw [← hr.out] at h2
            omega
          have hd1 : (0 : Int) ≤ (r : Int) % 10 := by omega
          have hd2 : (r : Int) % 10 < 36 := by omega
          have hlk : (l ++ digs k R).length = 19 * t + k := by rw [List.length_append, digs_length, hll]
          go_wp2_with (first
            | (at_builtin; go_must (refine list_append rfl (.tmp 31) (.tmp 37) rfl _ _ (by exact rfl) (by exact rfl) (hok.below ((Below.refl _ _).alloc (Nat.le_refl _) _) rfl) (one_byte wr _) (by simp) (by rw [hlk]; simp only [List.length_cons, List.length_nil]; omega) (Nat.le_trans hbk.size (by simp)) ?_; intro g cap w4 ho4 hgr4 hg4 hlt4))
            | fail)
          have ho5 : OwnB w0.heap.size w4 (.slice (some ⟨g, 0, none⟩) (19 * t + k + 1) cap) (l ++ digs (k + 1) R) := by
            rw [digs_snoc, ← hr.out, ← List.append_assoc, ← digT_at (r % 10) (by omega)]
            rw [hlk] at ho4
            exact ho4
          have hq5 := (hqk.below ((Below.refl _ wr).alloc (Nat.le_refl _) (.cells #[Value.int .u8 ((digT[r % 10]'(Nat.lt_trans (Nat.mod_lt r (by decide)) (by decide))).toNat : Nat)] 5))).grown (v' := .slice (some ⟨g, 0, none⟩) (19 * t + k + 1) cap) hgr4 (fun g' e => by cases e; exact hg4)
          have hb5 := (hbk.alloc hbk.size (.cells #[Value.int .u8 ((digT[r % 10]'(Nat.lt_trans (Nat.mod_lt r (by decide)) (by decide))).toNat : Nat)] 5)).grown hgr4 (Nat.le_trans hbk.size (by simp)) (fun k e => (World.ownsRow.lt hok k e).1)
          clear ho4 hgr4 hg4
          go_roundw
          case rel =>
            refine ⟨k + 1, r / 10, by go_num, by omega, by rw [Int.natCast_ediv]; rfl, Lib.hid ?_, ho5, hq5, hb5⟩
            rw [hr.out, Nat.div_div_eq_div_mul, Nat.pow_succ]
          case measure => simp [intOf]; omega
        · have hk2 : k = 19 := by omega
          subst hk2
          go_wp2_with fail
          have hl1 := ho.len
          have hl2 := hok.len
          rw [List.length_append, digs_length] at hl2
          go_roundw
          case rel =>
            refine ⟨t + 1, l ++ digs 19 R, ?_, hok, Lib.hid ?_, Lib.hid (.inr ?_), hbk⟩
            · rw [show 19 * (t + 1) = 19 * t + 19 by omega, Nat.pow_add, ← Nat.div_div_eq_div_mul, ← HA.out]
              exact hqk.mono fun _ _ _ => trivial
            · rw [show 19 * (t + 1) = 19 * t + 19 by omega, digs_add, ← hl.out, ← HA.out, HR.out]
              rw [show (10000000000000000000 : Nat) = 10 ^ 19 by decide, digs_mod 19 19 a (Nat.le_refl _)]
            · rw [Nat.add_sub_cancel]
              apply Classical.byContradiction
              intro hc
              have := Nat.div_eq_of_lt (Nat.lt_of_not_le hc)
              rw [← HA.out] at this
              exact h0 this
          case measure => omega
end Go.Proofs.YtjdelpelnjhidaaGreatDoor.Pl
