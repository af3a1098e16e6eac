/- The sum of bytes: laws in plain Lean. -/
import Derived.Test.YtlffgepnhhnadaaDoorAliveP
namespace Go.Proofs.YtlffgepnhhnadaaDoor.Pl
open Go.RowKit

theorem crcBit_xor (x y : Nat) : crcBit (x ^^^ y) = crcBit x ^^^ crcBit y := by
  unfold crcBit
  rw [Nat.xor_div_two]
  have hx : (x ^^^ y) % 2 = 1 ↔ ¬ (x % 2 = 1 ↔ y % 2 = 1) := Nat.xor_mod_two_eq_one
  have e : (if (x ^^^ y) % 2 = 1 then 3988292384 else 0) = (if x % 2 = 1 then 3988292384 else 0) ^^^ (if y % 2 = 1 then 3988292384 else 0) := by
    by_cases h1 : x % 2 = 1 <;> by_cases h2 : y % 2 = 1 <;> simp [hx, h1, h2]
  rw [e]; ac_rfl
theorem crcBits_xor : ∀ (n x y : Nat), crcBits n (x ^^^ y) = crcBits n x ^^^ crcBits n y
  | 0, _, _ => rfl
  | n + 1, x, y => by simp only [crcBits, crcBit_xor]; exact crcBits_xor n _ _
theorem crcByte_xor (x y : Nat) (a b : UInt8) : crcByte (x ^^^ y) (a ^^^ b) = crcByte x a ^^^ crcByte y b := by
  unfold crcByte
  rw [← crcBits_xor, UInt8.toNat_xor]
  congr 1; ac_rfl
theorem crcR_xor : ∀ (l m : List UInt8) (x y : Nat), l.length = m.length → crcR (x ^^^ y) (List.zipWith (· ^^^ ·) l m) = crcR x l ^^^ crcR y m
  | [], [], x, y, _ => rfl
  | a :: l, b :: m, x, y, h => by
    have := crcR_xor l m (crcByte x a) (crcByte y b) (by simpa using h)
    rw [← crcByte_xor] at this
    exact this
theorem zip_zero : ∀ (l : List UInt8), List.zipWith (· ^^^ ·) l (List.replicate l.length (0 : UInt8)) = l
  | [] => rfl
  | a :: l => by simp [List.replicate_succ, zip_zero l]
theorem sumR_xor (l : List UInt8) : sumR l = 4294967295 ^^^ crcR 4294967295 l := by rw [xor_ones _ (crcR_lt l _ (by decide))]; rfl
theorem sum_three (l m : List UInt8) (h : l.length = m.length) : sumR l ^^^ sumR m ^^^ sumR (List.replicate l.length 0) = sumR (List.zipWith (· ^^^ ·) l m) := by
  have h1 := crcR_xor l m 4294967295 4294967295 h
  have h2 := crcR_xor (List.zipWith (· ^^^ ·) l m) (List.replicate l.length 0) (4294967295 ^^^ 4294967295) 4294967295 (by simp [← h])
  have h3 := zip_zero (List.zipWith (· ^^^ ·) l m)
  rw [show (List.zipWith (· ^^^ ·) l m).length = l.length by simp [← h]] at h3
  rw [h3, h1, Nat.xor_self, Nat.zero_xor] at h2
  simp only [sumR_xor]
  rw [h2]
  have : ∀ F a b c : Nat, F ^^^ a ^^^ (F ^^^ b) ^^^ (F ^^^ c) = F ^^^ (a ^^^ b ^^^ c) := fun F a b c => by
    have : F ^^^ a ^^^ (F ^^^ b) ^^^ (F ^^^ c) = (F ^^^ F) ^^^ (F ^^^ (a ^^^ b ^^^ c)) := by ac_rfl
    rw [this, Nat.xor_self, Nat.zero_xor]
  exact this _ _ _ _
/-- a step can be taken back -/
theorem crcBit_inj {x y : Nat} (hx : x < 4294967296) (hy : y < 4294967296) (h : crcBit x = crcBit y) : x = y := by
  have h1 : crcBit (x ^^^ y) = 0 := by rw [crcBit_xor, h, Nat.xor_self]
  have hl : x ^^^ y < 4294967296 := Nat.xor_lt_two_pow (n := 32) hx hy
  have h2 : x ^^^ y = 0 := by
    generalize x ^^^ y = z at h1 hl
    unfold crcBit at h1
    by_cases hz : z % 2 = 1
    · rw [if_pos hz] at h1
      have e : z / 2 = 3988292384 := by
        have := congrArg (· ^^^ 3988292384) h1
        simpa [Nat.xor_assoc] using this
      omega
    · rw [if_neg hz, Nat.xor_zero] at h1
      omega
  have := congrArg (· ^^^ y) h2
  simpa [Nat.xor_assoc] using this
theorem crcBits_inj : ∀ (n : Nat) {x y : Nat}, x < 4294967296 → y < 4294967296 → crcBits n x = crcBits n y → x = y
  | 0, _, _, _, _, h => h
  | n + 1, _, _, hx, hy, h => crcBit_inj hx hy (crcBits_inj n (crcBit_lt hx) (crcBit_lt hy) h)
theorem xor_cancel {a b c : Nat} (h : a ^^^ c = b ^^^ c) : a = b := by
  have := congrArg (· ^^^ c) h
  simpa [Nat.xor_assoc] using this
theorem xb_lt {x : Nat} (c : UInt8) (h : x < 4294967296) : x ^^^ c.toNat < 4294967296 := Nat.xor_lt_two_pow (n := 32) h (Nat.lt_of_lt_of_le c.toNat_lt (by decide))
theorem crcByte_inj {x y : Nat} (c : UInt8) (hx : x < 4294967296) (hy : y < 4294967296) (h : crcByte x c = crcByte y c) : x = y :=
  xor_cancel (crcBits_inj 8 (xb_lt c hx) (xb_lt c hy) h)
theorem crcR_inj : ∀ (l : List UInt8) {x y : Nat}, x < 4294967296 → y < 4294967296 → crcR x l = crcR y l → x = y
  | [], _, _, _, _, h => h
  | c :: l, _, _, hx, hy, h => crcByte_inj c hx hy (crcR_inj l (crcByte_lt c hx) (crcByte_lt c hy) h)
/-- one byte changed: another sum -/
theorem crcR_set (l : List UInt8) (k : Nat) (hk : k < l.length) (c : UInt8) {x : Nat} (hx : x < 4294967296) (h : crcR x (l.set k c) = crcR x l) : c = l[k] := by
  have e1 : l.set k c = l.take k ++ c :: l.drop (k + 1) := List.set_eq_take_append_cons_drop ▸ by simp [hk]
  have e2 : l = l.take k ++ l[k] :: l.drop (k + 1) := by simp
  have e3 : crcR x l = crcR (crcByte (crcR x (l.take k)) l[k]) (l.drop (k + 1)) := (congrArg (crcR x) e2).trans (by simp only [crcR, List.foldl_append, List.foldl_cons])
  rw [e1, e3] at h
  have e4 : crcR x (l.take k ++ c :: l.drop (k + 1)) = crcR (crcByte (crcR x (l.take k)) c) (l.drop (k + 1)) := by simp [crcR]
  rw [e4] at h
  have hq := crcR_lt (l.take k) x hx
  have h5 := crcR_inj _ (crcByte_lt c hq) (crcByte_lt l[k] hq) h
  have h6 := crcBits_inj 8 (xb_lt c hq) (xb_lt l[k] hq) h5
  rw [Nat.xor_comm _ c.toNat, Nat.xor_comm _ l[k].toNat] at h6
  exact UInt8.toNat_inj.1 (xor_cancel h6)
theorem sumR_set (l : List UInt8) (k : Nat) (hk : k < l.length) (c : UInt8) (hc : c ≠ l[k]) : sumR (l.set k c) ≠ sumR l := by
  intro h
  have h1 := crcR_lt l 4294967295 (by decide)
  have h2 := crcR_lt (l.set k c) 4294967295 (by decide)
  unfold sumR at h
  exact hc (crcR_set l k hk c (x := 4294967295) (by decide) (by omega))
end Go.Proofs.YtlffgepnhhnadaaDoor.Pl
