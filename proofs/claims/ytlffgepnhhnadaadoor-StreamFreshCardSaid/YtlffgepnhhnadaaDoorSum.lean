/- stream.Sum, walked: the sum of bytes in plain Lean. -/
import Derived.Test.YtlffgepnhhnadaaDoorCode
namespace Go.Proofs.YtlffgepnhhnadaaDoor.Pl
open Go.RowKit

/-- one step of the sum -/
def crcBit (x : Nat) : Nat := (x / 2) ^^^ (if x % 2 = 1 then 3988292384 else 0)
def crcBits : Nat → Nat → Nat
  | 0, x => x
  | n + 1, x => crcBits n (crcBit x)
def crcByte (x : Nat) (c : UInt8) : Nat := crcBits 8 (x ^^^ c.toNat)
def crcR (x : Nat) (l : List UInt8) : Nat := l.foldl crcByte x
/-- the sum of bytes -/
def sumR (l : List UInt8) : Nat := 4294967295 - crcR 4294967295 l

theorem crcBit_lt {x : Nat} (h : x < 4294967296) : crcBit x < 4294967296 := by
  unfold crcBit
  refine Nat.xor_lt_two_pow (n := 32) (by omega) ?_
  split <;> decide
theorem crcBits_lt : ∀ (n x : Nat), x < 4294967296 → crcBits n x < 4294967296
  | 0, _, h => h
  | n + 1, _, h => crcBits_lt n _ (crcBit_lt h)
theorem crcByte_lt {x : Nat} (c : UInt8) (h : x < 4294967296) : crcByte x c < 4294967296 :=
  crcBits_lt 8 _ (Nat.xor_lt_two_pow (n := 32) h (Nat.lt_of_lt_of_le c.toNat_lt (by decide)))
theorem crcR_lt : ∀ (l : List UInt8) (x : Nat), x < 4294967296 → crcR x l < 4294967296
  | [], _, h => h
  | c :: l, _, h => crcR_lt l _ (crcByte_lt c h)
theorem crcR_snoc (x : Nat) (l : List UInt8) (c : UInt8) : crcR x (l ++ [c]) = crcByte (crcR x l) c := by simp [crcR]
theorem crcBits_snoc : ∀ (n x : Nat), crcBits (n + 1) x = crcBit (crcBits n x)
  | 0, _ => rfl
  | n + 1, x => crcBits_snoc n (crcBit x)

theorem wrap_u32n (n : Int) : IntKind.u32.wrap n = n % 4294967296 := by simp [IntKind.wrap, IntKind.bits, IntKind.signed]
theorem bv32 (a : Nat) (ha : a < 4294967296) : (BitVec.ofInt 32 (a : Int)).toNat = a := by
  rw [BitVec.ofInt_natCast, BitVec.toNat_ofNat]; exact Nat.mod_eq_of_lt (by omega)
theorem xor32 (a b : Nat) (ha : a < 4294967296) (hb : b < 4294967296) : bits .xor .u32 (a : Int) (b : Int) = ((a ^^^ b : Nat) : Int) := by
  have hx : a ^^^ b < 2 ^ 32 := Nat.xor_lt_two_pow (by omega) (by omega)
  show IntKind.u32.wrap ((BitVec.ofInt 32 (a : Int) ^^^ BitVec.ofInt 32 (b : Int)).toNat : Int) = _
  rw [BitVec.toNat_xor, bv32 a ha, bv32 b hb, wrap_u32n]
  omega
theorem and32 (a b : Nat) (ha : a < 4294967296) (hb : b < 4294967296) : bits .and .u32 (a : Int) (b : Int) = ((a &&& b : Nat) : Int) := by
  have hx : a &&& b < 2 ^ 32 := Nat.and_lt_two_pow _ (by omega)
  show IntKind.u32.wrap ((BitVec.ofInt 32 (a : Int) &&& BitVec.ofInt 32 (b : Int)).toNat : Int) = _
  rw [BitVec.toNat_and, bv32 a ha, bv32 b hb, wrap_u32n]
  omega
theorem xor_ones (x : Nat) (hx : x < 4294967296) : 4294967295 ^^^ x = 4294967295 - x := by
  have h := congrArg BitVec.toNat (BitVec.not_def (x := BitVec.ofNat 32 x))
  rw [BitVec.toNat_xor, BitVec.toNat_not, BitVec.toNat_ofNat, Nat.mod_eq_of_lt hx] at h
  exact h.symm
theorem crcBit_go (x : Nat) (hx : x < 4294967296) : bits .xor .u32 ((x / 2 : Nat) : Int) (bits .and .u32 (IntKind.u32.wrap (-(bits .and .u32 (x : Int) 1))) 3988292384) = ((crcBit x : Nat) : Int) := by
  have h1 : bits .and .u32 (x : Int) 1 = ((x % 2 : Nat) : Int) := by
    rw [show (1 : Int) = ((1 : Nat) : Int) from rfl, and32 x 1 hx (by decide), Nat.and_one_is_mod]
  rw [h1]
  unfold crcBit
  by_cases h : x % 2 = 1
  · rw [h, if_pos rfl, show IntKind.u32.wrap (-((1 : Nat) : Int)) = ((4294967295 : Nat) : Int) by rw [wrap_u32n]; rfl, show (3988292384 : Int) = ((3988292384 : Nat) : Int) from rfl, and32 _ _ (by decide) (by decide), xor32 _ _ (by omega) (by decide)]
    rfl
  · rw [show x % 2 = 0 by omega, if_neg (by decide), show IntKind.u32.wrap (-((0 : Nat) : Int)) = ((0 : Nat) : Int) by rw [wrap_u32n]; rfl, show (3988292384 : Int) = ((3988292384 : Nat) : Int) from rfl, and32 _ _ (by decide) (by decide), xor32 _ _ (by omega) (by decide)]
    rfl

set_option maxRecDepth 10000 in
theorem Sum_any {ok : Nat → Prop} {v : Value} {l : List UInt8} (w : World) (hv : Bytes ok w v l) :
    Calls Tryd.prog 25 #[v] w fun e w' => e = .returned (.int .u32 (sumR l)) ∧ w = w' := by
  obtain ⟨A, c, rfl, hc, hl2, hrow⟩ := hv
  have HR := Lib.hid hrow
  clear hrow
  go_enter Tryd.func25, Tryd.ntmps25
  go_wp2_with fail
  go_loopw [8, 3] (fun i x wr => ∃ k : Nat, k ≤ l.length ∧ i = .int .i64 k ∧ x = .int .u32 (crcR 4294967295 (l.take k)) ∧ wr = w) (fun i _ _ => l.length - (intOf i).toNat)
  case atStart => exact ⟨0, Nat.zero_le _, rfl, rfl, rfl⟩
  case round =>
    obtain ⟨k, hk, rfl, rfl, rfl⟩ := hrel
    have hxl := crcR_lt (l.take k) 4294967295 (by omega)
    by_cases hkl : k < l.length
    · have hkg : l[k]? = some l[k] := List.getElem?_eq_getElem hkl
      obtain ⟨b, o, rfl, _, _, hcell⟩ := HR.out.at (by intro e; have h := congrArg List.length e; rw [List.length_map] at h; simp only [List.length_nil] at h; omega)
      have hcc := hcell k (bv l[k]) (by simp [hkg])
      simp only [bv] at hcc
      clear hcell
      have HN : Hid (crcR 4294967295 (l.take (k + 1)) = crcByte (crcR 4294967295 (l.take k)) l[k]) := Lib.hid (by rw [List.take_add_one, hkg]; exact crcR_snoc _ _ _)
      obtain ⟨y, hy⟩ : ∃ y, crcR 4294967295 (l.take k) = y := ⟨_, rfl⟩
      rw [hy] at HN hxl ⊢
      clear hy hkg
      have hcl := l[k].toNat_lt
      simp only [crcByte] at HN
      generalize l[k].toNat = d at hcc hcl HN
      obtain ⟨z, hz⟩ : ∃ z, y ^^^ d = z := ⟨_, rfl⟩
      have hzl : z < 4294967296 := by rw [← hz]; exact Nat.xor_lt_two_pow (n := 32) hxl (by omega)
      have hxr : bits .xor .u32 (y : Int) (d : Int) = (z : Int) := by rw [xor32 y d hxl (by omega), hz]
      rw [hz] at HN
      clear hz
      go_wp2_with fail
      go_loopw [16, 3] (fun i x wr' => ∃ j : Nat, j ≤ 8 ∧ i = .int .i64 j ∧ x = .int .u32 (crcBits j z) ∧ wr' = wr) (fun i _ _ => 8 - (intOf i).toNat)
      case atStart => exact ⟨0, Nat.zero_le _, rfl, rfl, rfl⟩
      case round =>
        obtain ⟨j, hj, rfl, rfl, rfl⟩ := hrel
        have hql := crcBits_lt j z hzl
        have hqs := crcBits_snoc j z
        by_cases hj8 : j < 8
        · generalize crcBits j z = q at hql hqs ⊢
          have HGO : Hid (bits .xor .u32 ((q : Int) / 2) (bits .and .u32 (-bits .and .u32 (q : Int) 1 % 4294967296) 3988292384) = ((crcBit q : Nat) : Int)) := by
            have h := crcBit_go q hql
            rw [wrap_u32n, Int.natCast_ediv] at h
            exact Lib.hid h
          go_wp2
          go_roundw
          · exact ⟨j + 1, hj8, by simp, by rw [HGO.out, hqs], trivial⟩
          · simp [intOf]; omega
        · have hje : j = 8 := by omega
          subst hje
          go_wp2
          go_roundw
          · exact ⟨k + 1, hkl, by simp, by rw [HN.out], trivial⟩
          · simp [intOf]; omega
    · have hke : l.take k = l := List.take_of_length_le (by omega)
      rw [hke] at hxl ⊢
      have hx1 : bits .xor .u32 IntKind.u32.max (crcR 4294967295 l : Int) = (sumR l : Int) := by
        rw [show IntKind.u32.max = ((4294967295 : Nat) : Int) from rfl, xor32 _ _ (by decide) hxl, xor_ones _ hxl]; rfl
      go_wp2
      go_ret
      exact ⟨by rw [← hx1]; rfl, rfl⟩

theorem or32 (a b : Nat) (ha : a < 4294967296) (hb : b < 4294967296) : bits .or .u32 (a : Int) (b : Int) = ((a ||| b : Nat) : Int) := by
  have hx : a ||| b < 2 ^ 32 := Nat.or_lt_two_pow (by omega) (by omega)
  show IntKind.u32.wrap ((BitVec.ofInt 32 (a : Int) ||| BitVec.ofInt 32 (b : Int)).toNat : Int) = _
  rw [BitVec.toNat_or, bv32 a ha, bv32 b hb, wrap_u32n]
  omega
theorem or4 (x0 x1 x2 x3 : Nat) (l0 : x0 < 2 ^ 8) (l1 : x1 < 2 ^ 8) (l2 : x2 < 2 ^ 8) (l3 : x3 < 2 ^ 8) :
    bits .or .u32 (bits .or .u32 (bits .or .u32 ((x0 : Int) * 16777216) ((x1 : Int) * 65536)) ((x2 : Int) * 256)) (x3 : Int) = ((256 * (256 * (256 * (256 * 0 + x0) + x1) + x2) + x3 : Nat) : Int) := by
  have e1 := Nat.two_pow_add_eq_or_of_lt (i := 24) (b := x1 * 65536) (by omega) x0
  have e2 := Nat.two_pow_add_eq_or_of_lt (i := 16) (b := x2 * 256) (by omega) (256 * x0 + x1)
  have e3 := Nat.two_pow_add_eq_or_of_lt (i := 8) (b := x3) (by omega) (65536 * x0 + 256 * x1 + x2)
  rw [show (x0 : Int) * 16777216 = ((2 ^ 24 * x0 : Nat) : Int) by omega, show (x1 : Int) * 65536 = ((x1 * 65536 : Nat) : Int) by omega, or32 _ _ (by omega) (by omega), ← e1,
    show 2 ^ 24 * x0 + x1 * 65536 = 2 ^ 16 * (256 * x0 + x1) by omega, show (x2 : Int) * 256 = ((x2 * 256 : Nat) : Int) by omega, or32 _ _ (by omega) (by omega), ← e2,
    show 2 ^ 16 * (256 * x0 + x1) + x2 * 256 = 2 ^ 8 * (65536 * x0 + 256 * x1 + x2) by omega, or32 _ _ (by omega) (by omega), ← e3]
  omega

/-- stream.number -/
theorem number4 {ok : Nat → Prop} {v : Value} {l : List UInt8} (w : World) (hv : Bytes ok w v l) (hl : 4 ≤ l.length) :
    Calls Tryd.prog 65 #[v] w fun e w' => e = .returned (.int .u32 (wd l 0 4 false)) ∧ ∃ k, w' = w.drewN k := by
  obtain ⟨A, c, rfl, hc, hl2, hrow⟩ := hv
  obtain ⟨a0, a1, a2, a3, t, rfl⟩ : ∃ a0 a1 a2 a3 t, l = a0 :: a1 :: a2 :: a3 :: t := by
    match l, hl with
    | a0 :: a1 :: a2 :: a3 :: t, _ => exact ⟨_, _, _, _, _, rfl⟩
  obtain ⟨b, o, rfl, _, _, hcell⟩ := hrow.at (by simp)
  have c0 := hcell 0 _ rfl
  have c1 := hcell 1 _ rfl
  have c2 := hcell 2 _ rfl
  have c3 := hcell 3 _ rfl
  have hd : wd (a0 :: a1 :: a2 :: a3 :: t) 0 4 false = 256 * (256 * (256 * (256 * 0 + a0.toNat) + a1.toNat) + a2.toNat) + a3.toNat := by simp [wd, decB]
  rw [hd]
  have l0 := a0.toNat_lt
  have l1 := a1.toNat_lt
  have l2 := a2.toNat_lt
  have l3 := a3.toNat_lt
  simp only [bv] at c0 c1 c2 c3
  rw [Nat.add_zero] at c0
  clear hcell hd hrow
  have hlen : (a0 :: a1 :: a2 :: a3 :: t).length = t.length + 4 := rfl
  rw [hlen] at hc hl2 ⊢
  generalize a0.toNat = x0 at *
  generalize a1.toNat = x1 at *
  generalize a2.toNat = x2 at *
  generalize a3.toNat = x3 at *
  generalize t.length = n at *
  have h0 : (0 : Int) < ((n + 4 : Nat) : Int) := by omega
  have h1 : (1 : Int) < ((n + 4 : Nat) : Int) := by omega
  have h2 : (2 : Int) < ((n + 4 : Nat) : Int) := by omega
  have h3 : (3 : Int) < ((n + 4 : Nat) : Int) := by omega
  clear hlen hl
  go_enter Tryd.func65, Tryd.ntmps65
  go_wp2
  go_quiet (fail)
  go_wp2
  go_ret
  exact ⟨by rw [← or4 x0 x1 x2 x3 l0 l1 l2 l3]; rfl, _, rfl⟩
end Go.Proofs.YtlffgepnhhnadaaDoor.Pl
