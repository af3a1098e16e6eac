/- radix: how many digits a number has; power: a logarithm. -/
import Derived.Test.YtjdelpelnjhidaaGreatDoorRadB
namespace Go.Proofs.YtjdelpelnjhidaaGreatDoor.Pl
open Go.RowKit
theorem conv_own {B : Nat} {w : World} {g N cap : Nat} {l : List UInt8} (h : OwnB B w (.slice (some ⟨g, 0, none⟩) N cap) l) (hN : l.length = N) (h0 : l ≠ []) (hl : N ≤ 140737488355328) : (convert 65 9 (.slice (some ⟨g, 0, none⟩) N cap)).run Tryz.prog w = .ok (.string ⟨l.toArray⟩) w := by
  subst hN
  have := conv_take (h.bytes hl) l.length (Nat.le_refl _) h0
  rwa [List.take_length] at this
theorem OwnB.cellAt {B : Nat} {w : World} {g n cap : Nat} {l : List UInt8} (h : OwnB B w (.slice (some ⟨g, 0, none⟩) n cap) l) {j : Nat} {x : UInt8} (hj : l[j]? = some x) : w.cell? ⟨g, j, none⟩ = some (.int .u8 x.toNat) := by
  have := World.ownsRow.cells h (g := g) rfl j (bv x) (by rw [List.getElem?_map, hj]; rfl)
  rwa [addn, Nat.zero_add] at this
theorem OwnB.set {B : Nat} {w : World} {g n cap : Nat} {l : List UInt8} (h : OwnB B w (.slice (some ⟨g, 0, none⟩) n cap) l) (hn : n = l.length) (j : Nat) (x : UInt8) : OwnB B (w.setCell ⟨g, j, none⟩ (.int .u8 x.toNat)) (.slice (some ⟨g, 0, none⟩) n cap) (l.set j x) := by
  subst hn
  have := (World.ownsRow.stored (n := l.length) h j (bv x)).1
  unfold OwnB
  rw [List.length_set, List.map_set]
  exact this
theorem OwnB.free {B : Nat} {w : World} {g n cap : Nat} {l : List UInt8} (h : OwnB B w (.slice (some ⟨g, 0, none⟩) n cap) l) (hn : n = l.length) (j : Nat) : w.frozen? ⟨g, j, none⟩ = false := by
  subst hn
  exact World.ownsRow.frozenAt (n := l.length) h j
set_option maxRecDepth 100000 in
set_option maxHeartbeats 8000000 in
theorem reverse_any (g n cap B : Nat) (l : List UInt8) (w : World) (h : OwnB B w (.slice (some ⟨g, 0, none⟩) n cap) l) (hn : n = l.length) (hB : B ≤ g) (hl : l.length ≤ 10000000) : Calls Tryz.prog 143 #[.slice (some ⟨g, 0, none⟩) n cap] w fun e w' => (∃ l', e = .returned (.tuple #[]) ∧ l'.length = n ∧ OwnB B w' (.slice (some ⟨g, 0, none⟩) n cap) l') ∧ Below B w w' := by
  have HN := Lib.hid hn
  rw [← hn] at hl
  clear hn
  go_enter Tryz.func143, Tryz.ntmps143
  go_wp2_with fail
  go_loopw [2, 3] (fun i j W => ∃ (a : Nat) (l' : List UInt8), i = .int .i64 a ∧ j = .int .i64 ((n : Int) - 1 - a) ∧ a ≤ n ∧ Hid (l'.length = n) ∧ OwnB B W (.slice (some ⟨g, 0, none⟩) n cap) l' ∧ Below B w W) (fun i _ _ => n - (intOf i).toNat)
  case atStart => exact ⟨0, l, rfl, by simp, by omega, Lib.hid HN.out.symm, h, Below.refl _ _⟩
  case round =>
    obtain ⟨a, l', rfl, rfl, ha, hl', ho, hbel⟩ := hrel
    by_cases hlt : (a : Int) < (n : Int) - 1 - a
    · obtain ⟨b, hb⟩ : ∃ b : Nat, (n : Int) - 1 - a = (b : Int) := ⟨n - 1 - a, by omega⟩
      rw [hb]
      have hab : a < b := by omega
      have hbn : b < n := by omega
      have HB := Lib.hid hb
      rw [hb] at hlt
      clear hb
      obtain ⟨x, hx⟩ : ∃ x, l'[a]? = some x := ⟨_, List.getElem?_eq_getElem (by have := hl'.out; omega)⟩
      obtain ⟨y, hy⟩ : ∃ x, l'[b]? = some x := ⟨_, List.getElem?_eq_getElem (by have := hl'.out; omega)⟩
      have hcx := ho.cellAt hx
      have hcy := ho.cellAt hy
      have hfx := ho.free hl'.out.symm a
      have hfy := ho.free hl'.out.symm b
      have hne : ¬ a = b := by omega
      have hne2 : ¬ b = a := by omega
      have c1 : (a : Int) < (n : Int) := by omega
      have c2 : (b : Int) < (n : Int) := by omega
      have c3 : a < n := by omega
      go_wp2_with fail
      go_region
      go_wp2_with fail
      have ho2 := (ho.set hl'.out.symm a y).set (by rw [List.length_set]; exact hl'.out.symm) b x
      go_roundw
      case rel =>
        refine ⟨a + 1, (l'.set a y).set b x, by go_num, ?_, by omega, Lib.hid (by rw [List.length_set, List.length_set]; exact hl'.out), ho2, ?_⟩
        · have := HB.out
          congr 1
          omega
        · exact ((hbel.setCell (by exact hB) _).setCell (by exact hB) _).drew
      case measure => simp [intOf]; omega
    · go_wp2_with fail
      go_end0
      first | exact ⟨⟨l', rfl, hl'.out, ho⟩, hbel⟩ | exact ⟨⟨rfl, l', hl'.out, ho⟩, hbel⟩
set_option maxRecDepth 100000 in
set_option maxHeartbeats 8000000 in
theorem count_any (u : Value) (x : List Nat) (w : World) (hx : Wx w u x) (hlx : x.length ≤ 100000) (hbits : bl (val x) ≤ 262144) (h0 : 0 < val x) : Calls Tryz.prog 111 #[u] w fun e w' => (∃ m : Nat, e = .returned (.int .i64 m) ∧ Many (val x) m ∧ m ≤ 1000000) ∧ Below w.heap.size w w' := by
  have HN := Lib.hid (norm_wx u x w hx (by omega))
  obtain ⟨X, hX⟩ : ∃ X, X = val x := ⟨_, rfl⟩
  rw [← hX] at HN hbits h0
  rw [← hX]
  clear hX
  have hl4 : (ws X).length ≤ 4096 := ws_len_bits (by omega)
  have hn0 : (ws X).length ≠ 0 := fun e => by have := ws_len_zero.1 e; omega
  have HWR := fun z W hz => Lib.hid (written_any z (ws X) W hz (by omega) (by rw [val_ws]; exact hbits))
  simp only [val_ws] at HWR
  have HBT := fun w => Lib.hid (based_ten w)
  have HTX : Hid (Calls Tryz.prog 129 #[u, .int .i64 10] w fun e w' => (∃ s : ByteArray, e = .returned (.tuple #[.string s, .int .i64 0]) ∧ Many X s.size ∧ s.size ≤ 1000000) ∧ Below w.heap.size w w') := by
    refine Lib.hid ?_
    go_enter Tryz.func129, Tryz.ntmps129
    go_wp2_with (first
      | (go_at_call 141; refine (HBT _).out.mono ?_; rintro e w0 ⟨rfl, hw0⟩; subst hw0)
      | (go_at_call 114; refine HN.out.mono ?_; rintro e w1 ⟨⟨v1, rfl, hx1⟩, hb1⟩; obtain ⟨A, c, rfl, hc, _⟩ := hx1.view; obtain ⟨n, hn⟩ : ∃ n, n = (ws X).length := ⟨_, rfl⟩; rw [← hn] at hl4 hn0 hx1; rw [← hn]; have hn1 : ((n : Int) == 0) = false := (by simp; omega); clear hn)
      | (go_at_call 142; refine (HWR _ _ hx1).out.mono ?_; rintro e w2 ⟨⟨v, l, rfl, hov, hm, hlm⟩, hb2⟩; have hne : l ≠ [] := (by rintro rfl; have := hm.1; simp at this; omega); obtain ⟨g, cap, rfl, hBg, _, _⟩ := hov.form hne)
      | (go_at_call 143; refine (reverse_any g l.length cap _ l _ hov rfl hBg (by omega)).mono ?_; rintro e w3 ⟨⟨l', rfl, hl', ho'⟩, hb3⟩; have hcv := conv_own ho' hl' (by intro e; rw [e] at hl'; exact hne (List.eq_nil_of_length_eq_zero hl'.symm)) (by omega))
      | fail)
    go_ret2
    refine ⟨⟨_, rfl, ?_, ?_⟩, hb1.trans ((hb2.mono hb1.size).trans (hb3.mono hb1.size))⟩
    · show Many X l'.toArray.size
      rw [List.size_toArray, hl']; exact hm
    · show l'.toArray.size ≤ _
      rw [List.size_toArray, hl']; exact hlm
  go_enter Tryz.func111, Tryz.ntmps111
  go_wp2_with (first
    | (go_at_call 129; refine HTX.out.mono ?_; rintro e w1 ⟨⟨s, rfl, hm, hs⟩, hb⟩)
    | fail)
  go_ret
  exact ⟨⟨s.size, rfl, hm, hs⟩, hb⟩
/-- ten to the r is not above two to the k, and ten times that is above it -/
def Lg (k r : Int) : Prop := (0 ≤ k → ∃ n : Nat, r = n ∧ 10 ^ n ≤ 2 ^ k.toNat ∧ 2 ^ k.toNat < 10 ^ (n + 1)) ∧ (k < 0 → ∃ n : Nat, r = -n - 1 ∧ 10 ^ n ≤ 2 ^ (-k).toNat ∧ 2 ^ (-k).toNat < 10 ^ (n + 1))
theorem many_lg {k m : Nat} (h : Many (2 ^ k) m) : ∃ n, m = n + 1 ∧ 10 ^ n ≤ 2 ^ k ∧ 2 ^ k < 10 ^ (n + 1) := by
  obtain ⟨h1, h2⟩ := h
  have hp := Nat.two_pow_pos k
  cases m with
  | zero => simp at h1
  | succ n =>
    rcases h2 with h2 | h2
    · omega
    · exact ⟨n, rfl, by simpa using h2, h1⟩
theorem shl_one (a : Nat) (w : World) (ha : a ≤ 1200) : Calls Tryz.prog 100 #[.slice (some ⟨w.heap.size, 0, none⟩) 1 1, .int .i64 a] (w.alloc (.cells (([1].map uv).toArray) 22 (0, 0))) fun e w' => (∃ z, e = .returned (.tuple #[z, .int .i64 0]) ∧ Wx w' z (ws (2 ^ a))) ∧ Below w.heap.size w w' := by
  have hs := shl_any _ [1] a _ (ones_wx w 1 (by decide)) (by simp) (by rw [val_one, show bl 1 = 1 by decide]; omega)
  rw [val_one, Nat.one_mul] at hs
  exact hs.mono fun _ _ ⟨h, hb⟩ => ⟨h, ((Below.refl _ _).alloc (Nat.le_refl _) _).trans (hb.mono (by simp))⟩
theorem count_two (a : Nat) (ha : a ≤ 1200) (z : Value) (W : World) (hz : Wx W z (ws (2 ^ a))) : Calls Tryz.prog 111 #[z] W fun e w' => (∃ n : Nat, e = .returned (.int .i64 ((n : Int) + 1)) ∧ 10 ^ n ≤ 2 ^ a ∧ 2 ^ a < 10 ^ (n + 1) ∧ n ≤ 5000) ∧ Below W.heap.size W w' := by
  have hblp : bl (2 ^ a) ≤ 262144 := by
    have := bl_pow_le 2 a
    rw [show bl 2 = 2 by decide] at this
    omega
  have h := count_any z (ws (2 ^ a)) W hz (by have := ws_len_bits (n := 2 ^ a) (k := 4096) (by omega); omega) (by rw [val_ws]; exact hblp) (by rw [val_ws]; exact Nat.two_pow_pos a)
  rw [val_ws] at h
  refine h.mono ?_
  rintro e w' ⟨⟨m, rfl, hm, _⟩, hb⟩
  obtain ⟨n, rfl, h1, h2⟩ := many_lg hm
  have h4 := ten_pow_bl h1 (bl_pow_le 2 a)
  rw [show bl 2 = 2 by decide] at h4
  exact ⟨⟨n, by rw [Int.natCast_succ], h1, h2, by omega⟩, hb⟩
set_option maxRecDepth 100000 in
set_option maxHeartbeats 8000000 in
theorem log_any (k : Int) (w : World) (h1 : -1200 ≤ k) (h2 : k ≤ 1200) : Calls Tryz.prog 95 #[.int .i64 k] w fun e w' => (∃ r : Int, e = .returned (.tuple #[.int .i64 r, .int .i64 0]) ∧ Lg k r) ∧ Below w.heap.size w w' := by
  by_cases hk : 0 ≤ k
  · obtain ⟨a, rfl⟩ : ∃ a : Nat, k = a := ⟨k.toNat, by omega⟩
    have hal : a ≤ 1200 := by omega
    have HS := Lib.hid (shl_one a w hal)
    have HCT := fun z W hz => Lib.hid (count_two a hal z W hz)
    go_enter Tryz.func95, Tryz.ntmps95
    go_wp2_with (first
      | (go_at_call 100; refine HS.out.mono ?_; rintro e w1 ⟨⟨z, rfl, hz⟩, hb1⟩)
      | (go_at_call 111; refine (HCT _ _ hz).out.mono ?_; rintro e w2 ⟨⟨n, rfl, hn1, hn2, hnb⟩, hb2⟩)
      | fail)
    go_ret2
    exact ⟨⟨_, rfl, fun _ => ⟨n, rfl, by rw [Int.toNat_natCast]; exact hn1, by rw [Int.toNat_natCast]; exact hn2⟩, fun h => by omega⟩, hb1.trans (hb2.mono hb1.size)⟩
  · obtain ⟨a, rfl⟩ : ∃ a : Nat, k = -(a : Int) := ⟨(-k).toNat, by omega⟩
    have hal : a ≤ 1200 := by omega
    have hap : 0 < a := by omega
    have HS := Lib.hid (shl_one a w hal)
    have HCT := fun z W hz => Lib.hid (count_two a hal z W hz)
    go_enter Tryz.func95, Tryz.ntmps95
    go_wp2_with (first
      | (go_at_call 100; refine HS.out.mono ?_; rintro e w1 ⟨⟨z, rfl, hz⟩, hb1⟩)
      | (go_at_call 111; refine (HCT _ _ hz).out.mono ?_; rintro e w2 ⟨⟨n, rfl, hn1, hn2, hnb⟩, hb2⟩)
      | fail)
    go_ret2
    exact ⟨⟨_, rfl, fun h => by omega, fun _ => ⟨n, rfl, by rw [Int.neg_neg, Int.toNat_natCast]; exact hn1, by rw [Int.neg_neg, Int.toNat_natCast]; exact hn2⟩⟩, hb1.trans (hb2.mono hb1.size)⟩
end Go.Proofs.YtjdelpelnjhidaaGreatDoor.Pl
