/- ftoa's signed and Text, walked. -/
import Derived.Test.YtjdelpelnjhidaaGreatDoorFtoH
import Derived.Test.YtjdelpelnjhidaaGreatDoorFtoV
namespace Go.Proofs.YtjdelpelnjhidaaGreatDoor.Pl
open Go.RowKit
def zeroT : Nat → List UInt8
  | 1 => [48]
  | 2 => [48, 120, 48, 112, 43, 48]
  | 3 => [48, 101, 43, 48, 48]
  | _ => []
/-- the texts of 0, as the program's variable holds them -/
def Zer (w : World) : Prop := ∀ g, Tryz.prog.globalNamed "plumb/ftoa.zeros" = some g → ∀ i, i < 4 → w.cell? ⟨g, i, none⟩ = some (.string (B (zeroT i)))
theorem Zer.below {w w' : World} (h : Zer w) (k : Below w.heap.size w w') : Zer w' := fun g hg i hi => (k.cell (by have := h g hg i hi; exact lt_of_cell this)).trans (h g hg i hi)
theorem Zer.cell {w : World} (h : Zer w) (i : Nat) (hi : i < 4) : w.cell? ⟨0, i, none⟩ = some (.string (B (zeroT i))) := h 0 (by kernel_rfl) i hi
/-- what the library's and the program's variables hold -/
structure Std (w : World) : Prop where
  t10 : Tab10 w
  t16 : Tab16 w
  zer : Zer w
theorem Std.below {w w' : World} (h : Std w) (k : Below w.heap.size w w') : Std w' := ⟨h.t10.below k, h.t16.below k, h.zer.below k⟩
/-- the text of a pattern above 0 in a mode -/
def TextR (b : Nat) (mode : Nat) (l : List UInt8) : Prop :=
  (mode = 1 ∧ ∃ d x, ShortR b d x ∧ l = shortL (Lib.decDigits d) ((Lib.decDigits d).length + x)) ∨
  (mode = 2 ∧ ∃ m x, HexR b m x ∧ l = hexX m x) ∨
  (mode = 3 ∧ ∃ d x, ShortR b d x ∧ l = sciL (Lib.decDigits d) ((Lib.decDigits d).length + x))
theorem HexR.one {b m m' : Nat} {x x' : Int} (h : HexR b m x) (h' : HexR b m' x') : m = m' ∧ x = x' := by
  obtain ⟨k, rfl, rfl, h1, h2⟩ := h
  obtain ⟨k', rfl, rfl, h3, h4⟩ := h'
  have key : ∀ k k', mantP b * 2 ^ k < 9007199254740992 → 4503599627370496 ≤ mantP b * 2 ^ k' → k ≤ k' := fun k k' h1 h2 => by
    apply Classical.byContradiction
    intro hc
    have h5 : 2 ^ (k' + 1) ≤ 2 ^ k := Nat.pow_le_pow_right (by decide) (by omega)
    have h6 := Nat.mul_le_mul_left (mantP b) h5
    rw [Nat.pow_succ, ← Nat.mul_assoc] at h6
    omega
  have : k = k' := Nat.le_antisymm (key _ _ h2 h3) (key _ _ h4 h1)
  subst this
  exact ⟨rfl, rfl⟩
theorem TextR.one {b mode : Nat} {l l' : List UInt8} (h : TextR b mode l) (h' : TextR b mode l') : l = l' := by
  rcases h with ⟨h0, d, x, h1, h2⟩ | ⟨h0, d, x, h1, h2⟩ | ⟨h0, d, x, h1, h2⟩ <;>
  rcases h' with ⟨h0', d', x', h1', h2'⟩ | ⟨h0', d', x', h1', h2'⟩ | ⟨h0', d', x', h1', h2'⟩ <;>
  first
    | (exfalso; omega)
    | (obtain ⟨e1, e2⟩ := ShortR.one h1 h1'; subst e1 e2; rw [h2, h2'])
    | (obtain ⟨e1, e2⟩ := HexR.one h1 h1'; subst e1 e2; rw [h2, h2'])
open Classical in
noncomputable def textU (b mode : Nat) : List UInt8 := if h : ∃ l, TextR b mode l then Classical.choose h else []
theorem TextR.text {b mode : Nat} {l : List UInt8} (h : TextR b mode l) : l = textU b mode := by
  unfold textU
  rw [dif_pos ⟨l, h⟩]
  exact h.one (Classical.choose_spec (p := TextR b mode) ⟨l, h⟩)
/-- the text of a pattern in a mode -/
noncomputable def textT (b mode : Nat) : List UInt8 := (if b / 9223372036854775808 = 1 then [45] else []) ++ (if b % 9223372036854775808 = 0 then zeroT mode else textU (b % 9223372036854775808) mode)
theorem clear63 (b : Nat) (hb : b < 18446744073709551616) : bits .andNot .u64 (b : Int) 9223372036854775808 = ((b % 9223372036854775808 : Nat) : Int) := by
  have h1 : (BitVec.ofInt 64 (b : Int)).toNat = b := by
    rw [BitVec.ofInt_natCast, BitVec.toNat_ofNat]; exact Nat.mod_eq_of_lt hb
  have h2 : ~~~(BitVec.ofInt 64 (9223372036854775808 : Int)) = BitVec.ofNat 64 9223372036854775807 := by decide
  show IntKind.u64.wrap ((BitVec.ofInt 64 (b : Int) &&& ~~~(BitVec.ofInt 64 (9223372036854775808 : Int))).toNat : Int) = _
  rw [h2, BitVec.toNat_and, h1, show (BitVec.ofNat 64 9223372036854775807).toNat = 2 ^ 63 - 1 from rfl, Nat.and_two_pow_sub_one_eq_mod]
  simp only [IntKind.wrap_u64]
  omega
theorem zeroT_len (i : Nat) : (zeroT i).length ≤ 6 := by unfold zeroT; split <;> decide
theorem sci_len {l : List UInt8} {p : Int} (h : l.length ≤ 20) (h1 : -1900 ≤ p) (h2 : p ≤ 1900) : (sciL l p).length ≤ 60 := by
  rw [sci_cut]
  unfold mantL expL twoL
  obtain ⟨n, hn, _⟩ := abs_nat (p - 1)
  have h3 := itoa_size (if p - 1 < 0 then -(p - 1) else p - 1) (by split <;> omega) (by split <;> omega)
  rw [B_size] at h3
  simp only [List.length_append, List.length_cons, List.length_take]
  have e1 : (if 1 < l.length then (46 : UInt8) :: l.drop 1 else []).length ≤ 21 := by
    split
    · rw [List.length_cons, List.length_drop]; omega
    · exact Nat.zero_le _
  have e2 : (if p - 1 < 0 then ([45] : List UInt8) else [43]).length ≤ 1 := by split <;> simp
  have e3 : ∀ m : List UInt8, (if m.length < 2 then 48 :: m else m).length ≤ m.length + 1 := fun m => by split <;> simp
  have e4 := e3 (Lib.itoa (if p - 1 < 0 then -(p - 1) else p - 1))
  omega
theorem laid_len {l : List UInt8} {p : Int} (h : l.length ≤ 20) (h1 : -5 ≤ p) (h2 : p ≤ 21) : (laidL l p).length ≤ 60 := by
  unfold laidL
  split
  · simp; omega
  · split
    · simp; omega
    · simp; omega
theorem ShortR.small {b d : Nat} {x : Int} (h : ShortR b d x) : d ≤ 100000000000000000 ∧ 0 < d := by
  obtain ⟨t, i, k, hT, hi, hc, hno, hdk, hx, hm, hx1, hx2⟩ := h
  have h1 := hT.q_word hi
  have h2 : candE b (t - i) ≤ qE b (t - i) + 1 := by
    unfold candE
    split
    · unfold fstE; split <;> omega
    · split
      · unfold sndE; split <;> omega
      · omega
  have h3 : d * 1 ≤ d * 10 ^ k := Nat.mul_le_mul_left _ (Nat.pow_pos (by decide))
  omega
theorem HexR.bounds {b m : Nat} {x : Int} (hf : finP b) (h : HexR b m x) : -1100 ≤ x ∧ x ≤ 1100 := by
  obtain ⟨k, rfl, rfl, h1, h2⟩ := h
  have h3 := expP_lo b
  have h4 := expP_hi hf
  have h5 : k < 53 := by
    apply Classical.byContradiction
    intro hc
    have h5 : (2 : Nat) ^ 53 ≤ 2 ^ k := Nat.pow_le_pow_right (by decide) (by omega)
    have h6 : mantP b ≠ 0 := by intro h; rw [h] at h1; omega
    have h7 : 1 * 2 ^ k ≤ mantP b * 2 ^ k := Nat.mul_le_mul_right _ (by omega)
    have h8 : (2 : Nat) ^ 53 = 9007199254740992 := by decide
    omega
  omega
theorem hex_len (m : Nat) {x : Int} (h1 : -1100 ≤ x) (h2 : x ≤ 1100) : (hexX m x).length ≤ 60 := by
  have h3 := itoa_size x (by omega) (by omega)
  rw [B_size] at h3
  have h4 := trimR_len ((hexL m 14).drop 1) 48
  rw [List.length_drop, hexL_len] at h4
  have h5 : (if hexS m = [] then ([] : List UInt8) else 46 :: hexS m).length ≤ 14 := by
    split
    · exact Nat.zero_le _
    · unfold hexS; rw [List.length_cons]; omega
  have h6 : (if x < 0 then ([] : List UInt8) else [43]).length ≤ 1 := by split <;> simp
  unfold hexX
  simp only [List.length_append, List.length_cons, List.length_nil]
  omega
theorem TextR.len {b mode : Nat} {l : List UInt8} (hf : finP b) (h : TextR b mode l) : l.length ≤ 60 := by
  have key : ∀ d x, ShortR b d x → (Lib.decDigits d).length ≤ 20 ∧ -400 ≤ x ∧ x ≤ 800 := fun d x hs => by
    have h1 := hs.small
    obtain ⟨t, i, k, hT, hi, hc, hno, hdk, hx, hm, hx1, hx2⟩ := hs
    exact ⟨(dec_len (d := d) (by omega) (by omega)).2, hx1, hx2⟩
  rcases h with ⟨h0, d, x, h1, h2⟩ | ⟨h0, m, x, h1, h2⟩ | ⟨h0, d, x, h1, h2⟩
  · obtain ⟨k1, k2, k3⟩ := key d x h1
    rw [h2]
    unfold shortL
    split
    · exact sci_len k1 (by omega) (by omega)
    · exact laid_len k1 (by omega) (by omega)
  · rw [h2]
    have := h1.bounds hf
    exact hex_len m this.1 this.2
  · obtain ⟨k1, k2, k3⟩ := key d x h1
    rw [h2]
    exact sci_len k1 (by omega) (by omega)
theorem textU_len {b : Nat} (mode : Nat) (hf : finP b) : (textU b mode).length ≤ 60 := by
  unfold textU
  split
  · rename_i h
    exact TextR.len hf (Classical.choose_spec h)
  · exact Nat.zero_le _
theorem textT_len {b : Nat} (mode : Nat) (hf : finP b) : (textT b mode).length ≤ 61 := by
  have h1 := textU_len (b := b % 9223372036854775808) mode (by unfold finP at hf ⊢; omega)
  have h2 := zeroT_len mode
  unfold textT
  rw [List.length_append]
  have h3 : (if b / 9223372036854775808 = 1 then ([45] : List UInt8) else []).length ≤ 1 := by split <;> simp
  have h4 : (if b % 9223372036854775808 = 0 then zeroT mode else textU (b % 9223372036854775808) mode).length ≤ 60 := by split <;> omega
  omega
/-- a sign ahead; the text of 0, or another -/
def signT (b : Nat) (Z L : List UInt8) : List UInt8 := (if b / 9223372036854775808 = 1 then [45] else []) ++ (if b % 9223372036854775808 = 0 then Z else L)
theorem textT_eq (b mode : Nat) : textT b mode = signT b (zeroT mode) (textU (b % 9223372036854775808) mode) := rfl
set_option maxRecDepth 100000 in
set_option maxHeartbeats 8000000 in
theorem signed_gen (b mode f : Nat) (L : List UInt8) (P : Prop) (w : World) (hb : b < 18446744073709551616) (h : 1 ≤ mode ∧ mode < 4) (hS : Std w) (hfm : ∀ w, Calls Tryz.prog 34 #[.int .i64 mode] w fun e w' => e = .returned (.func (.func f) #[] #[]) ∧ w' = w)
    (heg : ∀ args w, (callFunc f args).run Tryz.prog w = .ok (.enter f args) w) (hL : L.length ≤ 60) (hcall : b % 9223372036854775808 ≠ 0 → Calls Tryz.prog f #[.int .u64 (b % 9223372036854775808 : Nat)] w fun e w' => (e = .returned (.string (B L)) ∧ P) ∧ Below w.heap.size w w') :
    Calls Tryz.prog 22 #[.int .u64 b, .int .i64 mode] w fun e w' => (e = .returned (.string (B (signT b (zeroT mode) L))) ∧ (b % 9223372036854775808 ≠ 0 → P)) ∧ Below w.heap.size w w' := by
  obtain ⟨c, hc⟩ : ∃ c, c = b % 9223372036854775808 := ⟨_, rfl⟩
  have hclr := clear63 b hb
  rw [← hc] at hclr hcall ⊢
  have HC := Lib.hid hcall
  clear hcall
  have hz := hS.zer.cell mode (by omega)
  have hZl := zeroT_len mode
  have hzs := B_size (zeroT mode)
  have hLs := B_size L
  generalize zeroT mode = Z at *
  have hT : ∀ q : Prop, signT b Z L = (if b / 9223372036854775808 = 1 then [45] else []) ++ (if c = 0 then Z else L) := fun _ => by unfold signT; rw [hc]
  have HT := Lib.hid hT
  clear hT
  obtain ⟨R, hR⟩ : ∃ R, R = signT b Z L := ⟨_, rfl⟩
  rw [← hR]
  have HR := Lib.hid hR
  clear hR
  have hfm := fun w => Lib.hid (hfm w)
  have h45 : (⟨#[45]⟩ : ByteArray) = B [45] := rfl
  have H45 := Lib.hid h45
  clear h45
  have hI : (mode : Int) < 4 := by omega
  go_enter Tryz.func22, Tryz.ntmps22
  by_cases hc0 : c = 0
  · have hsh : IntKind.u64.wrap ((b : Int) * 2) = 0 := by rw [IntKind.wrap_u64]; omega
    have hsh2 : (b : Int) * 2 % 18446744073709551616 = 0 := by omega
    go_wp2_with fail
    · go_ret
      refine ⟨⟨?_, fun h => absurd hc0 h⟩, Below.refl _ _⟩
      rw [HR.out, HT.out True, if_pos (by have : ((b : Int) / 9223372036854775808 = 1) := (by simpa using ‹((b : Int) / 9223372036854775808 == 1) = true›); omega), if_pos hc0, ← B_add, ← H45.out]
      rfl
    · go_ret
      refine ⟨⟨?_, fun h => absurd hc0 h⟩, Below.refl _ _⟩
      rw [HR.out, HT.out True, if_neg (by have : ¬ ((b : Int) / 9223372036854775808 = 1) := (by simpa using ‹((b : Int) / 9223372036854775808 == 1) = false›); omega), if_pos hc0]
      rfl
  · have hsh2 : ¬ (b : Int) * 2 % 18446744073709551616 = 0 := by omega
    have HC := Lib.hid (HC.out hc0)
    have HCc := Lib.hid hc
    clear hc
    go_wp2_with (first
      | (go_at_call 34; refine (hfm _).out.mono ?_; rintro e w1 ⟨rfl, hw1⟩; subst hw1)
      | fail)
    all_goals first
      | (have hc := HCc.out; exfalso; simp only [IntKind.wrap_u64, bne_iff_ne, bne_eq_false_iff_eq, ne_eq] at *; omega)
      | skip
    refine HC.out.mono ?_
    rintro e w2 ⟨⟨rfl, hP⟩, hb2⟩
    go_wp2_with fail
    · go_ret
      refine ⟨⟨?_, fun _ => hP⟩, hb2⟩
      rw [HR.out, HT.out True, if_pos (by have : ((b : Int) / 9223372036854775808 = 1) := (by simpa using ‹((b : Int) / 9223372036854775808 == 1) = true›); omega), if_neg hc0, ← B_add, ← H45.out]
      rfl
    · go_ret
      refine ⟨⟨?_, fun _ => hP⟩, hb2⟩
      rw [HR.out, HT.out True, if_neg (by have : ¬ ((b : Int) / 9223372036854775808 = 1) := (by simpa using ‹((b : Int) / 9223372036854775808 == 1) = false›); omega), if_neg hc0]
      rfl
theorem signed_any (b mode : Nat) (w : World) (hb : b < 18446744073709551616) (hf : finP b) (h : 1 ≤ mode ∧ mode < 4) (hS : Std w) : Calls Tryz.prog 22 #[.int .u64 b, .int .i64 mode] w fun e w' => (e = .returned (.string (B (textT b mode))) ∧ (b % 9223372036854775808 ≠ 0 → TextR (b % 9223372036854775808) mode (textU (b % 9223372036854775808) mode))) ∧ Below w.heap.size w w' := by
  have hfc : finP (b % 9223372036854775808) := by unfold finP at hf ⊢; omega
  have hl := textU_len (b := b % 9223372036854775808) mode hfc
  rw [textT_eq]
  have hfm := fun w => form_any mode w (by omega)
  rcases (by omega : mode = 1 ∨ mode = 2 ∨ mode = 3) with rfl | rfl | rfl
  · refine signed_gen b 1 48 _ _ w hb h hS (fun w => hfm w) (enters_of Tryz.func48 (by kernel_rfl) rfl) hl (fun h0 => ?_)
    refine (shortest_text _ w (Nat.mod_lt _ (by decide)) h0 hfc hS.t10).mono ?_
    rintro e w' ⟨⟨d, x, rfl, hs, _⟩, hb⟩
    have hT : TextR (b % 9223372036854775808) 1 (shortL (Lib.decDigits d) ((Lib.decDigits d).length + x)) := .inl ⟨rfl, d, x, hs, rfl⟩
    rw [← hT.text]
    exact ⟨⟨rfl, hT⟩, hb⟩
  · refine signed_gen b 2 49 _ _ w hb h hS (fun w => hfm w) (enters_of Tryz.func49 (by kernel_rfl) rfl) hl (fun h0 => ?_)
    refine (hex_text _ w (Nat.mod_lt _ (by decide)) h0 hfc hS.t10 hS.t16).mono ?_
    rintro e w' ⟨⟨m, x, rfl, hs⟩, hb⟩
    have hT : TextR (b % 9223372036854775808) 2 (hexX m x) := .inr (.inl ⟨rfl, m, x, hs, rfl⟩)
    rw [← hT.text]
    exact ⟨⟨rfl, hT⟩, hb⟩
  · refine signed_gen b 3 50 _ _ w hb h hS (fun w => hfm w) (enters_of Tryz.func50 (by kernel_rfl) rfl) hl (fun h0 => ?_)
    refine (science_any _ w (Nat.mod_lt _ (by decide)) h0 hfc hS.t10).mono ?_
    rintro e w' ⟨⟨d, x, rfl, hs, _⟩, hb⟩
    have hT : TextR (b % 9223372036854775808) 3 (sciL (Lib.decDigits d) ((Lib.decDigits d).length + x)) := .inr (.inr ⟨rfl, d, x, hs, rfl⟩)
    rw [← hT.text]
    exact ⟨⟨rfl, hT⟩, hb⟩
theorem cls_fin {b : Nat} (hf : finP b) : cls b < 3 := by
  unfold finP at hf
  unfold cls
  repeat' split
  all_goals omega
theorem text_any (b mode : Nat) (w : World) (hb : b < 18446744073709551616) (hf : finP b) (h : 1 ≤ mode ∧ mode < 4) (hS : Std w) : Calls Tryz.prog 8 #[.int .u64 b, .int .i64 mode] w fun e w' => (e = .returned (.tuple #[.string (B (textT b mode)), .int .i64 0]) ∧ (b % 9223372036854775808 ≠ 0 → TextR (b % 9223372036854775808) mode (textU (b % 9223372036854775808) mode))) ∧ Below w.heap.size w w' := by
  have hk := Lib.hid (known_yes mode w (by omega) (by omega))
  have hcl := Lib.hid (cls_any b w hb)
  have hsg := Lib.hid (signed_any b mode w hb hf h hS)
  have hc := cls_fin hf
  obtain ⟨c, hcc⟩ : ∃ c, c = cls b := ⟨_, rfl⟩
  rw [← hcc] at hcl hc
  clear hcc
  go_enter Tryz.func8, Tryz.ntmps8
  go_wp2_with (first
    | (go_at_call 20; refine hk.out.mono ?_; rintro e w1 ⟨rfl, hw1⟩; subst hw1)
    | (go_at_call 21; refine hcl.out.mono ?_; rintro e w1 ⟨rfl, hw1⟩; subst hw1)
    | (go_at_call 22; refine hsg.out.mono ?_; rintro e w2 ⟨⟨rfl, hT⟩, hb2⟩; have HT := Lib.hid hT; clear hT)
    | fail)
  go_ret2
  exact ⟨⟨rfl, HT.out⟩, hb2⟩
end Go.Proofs.YtjdelpelnjhidaaGreatDoor.Pl
