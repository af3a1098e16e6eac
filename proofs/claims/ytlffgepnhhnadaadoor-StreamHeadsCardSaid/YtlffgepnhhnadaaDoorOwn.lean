/- Rows that the call made: as slices; appends of points, trees, slices of bytes. -/
import Derived.Test.YtlffgepnhhnadaaDoorSums
namespace Go.Proofs.YtlffgepnhhnadaaDoor.Pl
open Go.RowKit

theorem Sl.of_own {B : Nat} {w : World} {e : TypeId} {k n : Nat} {v : Value} {xs : List Value} (h : w.ownsRow B e k v n xs) (hn : n ≤ 140737488355328) : Sl (fun b => B ≤ b) w v n xs := by
  obtain ⟨h0, ⟨rfl, h2⟩ | ⟨g, cap, cur, hv, hb, hg, h3, h4, h5, h6⟩⟩ := h
  · refine ⟨_, _, by rw [h2], by omega, hn, .inl ?_⟩
    exact List.eq_nil_of_length_eq_zero (by rw [h0, h2]; simp)
  · refine ⟨_, _, hv, h3, hn, .inr ⟨g, 0, rfl, hb, fun i c hc => ?_⟩⟩
    have := World.ownsRow.cells (show w.ownsRow B e k v n xs from ⟨h0, .inr ⟨g, cap, cur, hv, hb, hg, h3, h4, h5, h6⟩⟩) (g := g) (by rw [hv]; rfl) i c hc
    rw [add0] at this
    rw [Nat.zero_add]; exact this

theorem Tryd.infoPt : (Tryd.prog.info? 71).map (fun i => (i.zero, i.size, i.bytes)) = some (some (.agg #[.int .u64 0, .int .u64 0]), 2, 16) := by kernel_rfl
theorem Tryd.infoBs : (Tryd.prog.info? 35).map (fun i => (i.zero, i.size, i.bytes)) = some (some (.slice none 0 0), 1, 24) := by kernel_rfl
theorem pts_one (p : Pt) (l : List Pt) : ∀ u ∈ ptCells (p :: l), u.oneCell' = true := by
  have : ∀ (l : List Pt), ∀ u ∈ ptCells l, u.oneCell' = true := by
    intro l
    induction l with
    | nil => simp [ptCells]
    | cons q l ih =>
      intro u hu
      simp only [ptCells, List.mem_cons] at hu
      rcases hu with rfl | rfl | hu
      · rfl
      · rfl
      · exact ih u hu
  exact this _
/-- append of points to points -/
theorem list_appendPt {w : World} {ops : Array Oper} {rest : List Oper} {o : Oper} {a : Act} {Q : Exit → Act → World → Prop} (hgd : o.guard = none) (s x : Operand)
    (ho : o.op = .call { callee := .builtin .append, args := #[s, x], argTypes := #[48, 48] }) {B yb n m c : Nat} (v : Value) {vs news : List Value} (hs : a.eval s = v) (hx : a.eval x = .slice (some ⟨yb, 0, none⟩) m c) (hv : w.ownsRow B 71 2 v n vs)
    (hnl : news.length = m * 2) (hy : ∀ j u, news[j]? = some u → w.cell? ⟨yb, j, none⟩ = some u) (hu : ∀ u ∈ news, u.oneCell' = true) (hm : 0 < m) (hl : n + m ≤ 1099511627776) (hB : B ≤ w.heap.size)
    (h : ∀ g cap w', w'.ownsRow B 71 2 (.slice (some ⟨g, 0, none⟩) (n + m) cap) (n + m) (vs ++ news) → w.grownBy w' v.ownBlock → (v.ownBlock = some g ∨ g = w.heap.size) → g < w'.heap.size → wpList Tryd.prog ops Q rest (a.put o.dst (.slice (some ⟨g, 0, none⟩) (n + m) cap)) w') :
    wpList Tryd.prog ops Q (o :: rest) a w := by
  obtain ⟨i0, hi, hz0, hz1, hz2⟩ := info_parts Tryd.infoPt
  refine wpList_append_lies w hgd s x 48 ho B 71 i0 (.agg #[.int .u64 0, .int .u64 0]) 2 16 Tryd.underlying48 hi hz0 hz1 hz2 rfl (by decide) v n vs hs hv ⟨yb, 0, none⟩ m c news hx hnl ?_ hu hm (by unfold maxLen; omega) (by omega) hB w.heap.size rfl h
  intro j u hj
  rw [add0]; exact hy j u hj
/-- append of trees to trees -/
theorem list_appendGs {w : World} {ops : Array Oper} {rest : List Oper} {o : Oper} {a : Act} {Q : Exit → Act → World → Prop} (hgd : o.guard = none) (s x : Operand)
    (ho : o.op = .call { callee := .builtin .append, args := #[s, x], argTypes := #[40, 40] }) {B n m c : Nat} (ad : Addr) (v : Value) {vs news : List Value} (hs : a.eval s = v) (hx : a.eval x = .slice (some ad) m c) (hv : w.ownsRow B 51 4 v n vs)
    (hnl : news.length = m * 4) (hy : ∀ j u, news[j]? = some u → w.cell? (ad.add j) = some u) (hu : ∀ u ∈ news, u.oneCell' = true) (hm : 0 < m) (hl : n + m ≤ 1099511627776) (hB : B ≤ w.heap.size)
    (h : ∀ g cap w', w'.ownsRow B 51 4 (.slice (some ⟨g, 0, none⟩) (n + m) cap) (n + m) (vs ++ news) → w.grownBy w' v.ownBlock → (v.ownBlock = some g ∨ g = w.heap.size) → g < w'.heap.size → wpList Tryd.prog ops Q rest (a.put o.dst (.slice (some ⟨g, 0, none⟩) (n + m) cap)) w') :
    wpList Tryd.prog ops Q (o :: rest) a w := by
  obtain ⟨i0, hi, hz0, hz1, hz2⟩ := info_parts Tryd.infoGx
  exact wpList_append_lies w hgd s x 40 ho B 51 i0 (.agg #[.int .i64 0, .slice none 0 0, .slice none 0 0, .slice none 0 0]) 4 80 Tryd.underGx hi hz0 hz1 hz2 rfl (by decide) v n vs hs hv ad m c news hx hnl hy hu hm (by unfold maxLen; omega) (by omega) hB w.heap.size rfl h
/-- append of a slice of bytes to slices of bytes -/
theorem list_appendBs {w : World} {ops : Array Oper} {rest : List Oper} {o : Oper} {a : Act} {Q : Exit → Act → World → Prop} (hgd : o.guard = none) (s x : Operand)
    (ho : o.op = .call { callee := .builtin .append, args := #[s, x], argTypes := #[29, 29] }) {B yb n : Nat} (v : Value) {vs : List Value} {A : Option Addr} {p q : Nat} (hs : a.eval s = v) (hx : a.eval x = .slice (some ⟨yb, 0, none⟩) 1 1) (hv : w.ownsRow B 35 1 v n vs)
    (hy : w.cell? ⟨yb, 0, none⟩ = some (.slice A p q)) (hl : n + 1 ≤ 1099511627776) (hB : B ≤ w.heap.size)
    (h : ∀ g cap w', w'.ownsRow B 35 1 (.slice (some ⟨g, 0, none⟩) (n + 1) cap) (n + 1) (vs ++ [.slice A p q]) → w.grownBy w' v.ownBlock → (v.ownBlock = some g ∨ g = w.heap.size) → g < w'.heap.size → wpList Tryd.prog ops Q rest (a.put o.dst (.slice (some ⟨g, 0, none⟩) (n + 1) cap)) w') :
    wpList Tryd.prog ops Q (o :: rest) a w := by
  obtain ⟨i0, hi, hz0, hz1, hz2⟩ := info_parts Tryd.infoBs
  refine wpList_append_lies w hgd s x 29 ho B 35 i0 (.slice none 0 0) 1 24 Tryd.underlying29 hi hz0 hz1 hz2 rfl (by decide) v n vs hs hv ⟨yb, 0, none⟩ 1 1 [.slice A p q] hx rfl ?_ (by simp [Value.oneCell']) (by omega) (by unfold maxLen; omega) (by omega) hB w.heap.size rfl h
  intro j u hj
  rw [add0]
  match j, hj with
  | 0, hj => simp at hj; subst hj; exact hy

/-- a law's shape -/
structure Shp where
  k : Int
  dp : Int
  n : Int
  x : Nat
  y : Nat
  lt : Bool
def Shp.ok (s : Shp) : Prop := s.x < 18446744073709551616 ∧ s.y < 18446744073709551616
def finB (x : Nat) : Nat := if x / 4503599627370496 % 2048 = 2047 then x - 4503599627370496 else x
def Shp.pt (s : Shp) : Pt := (finB s.x, finB s.y)
def Shp.point (s : Shp) : G := .mk 1 [s.pt] [] []
def pairs (p : Pt) : Nat → List Pt
  | 0 => []
  | n + 1 => pairs p n ++ [p, (p.2, p.1)]
def nest : Nat → G → G
  | 0, g => g
  | n + 1, g => .mk 7 [] [] [nest n g]
def Shp.made (s : Shp) : G :=
  if s.k % 4 = 0 then s.point
  else if s.k % 4 = 1 then .mk 1 [] [] []
  else if s.k % 4 = 2 then .mk 2 (pairs s.pt (s.n % 4).toNat) [] []
  else nest (s.dp % 5).toNat (.mk 7 [] [] (List.replicate (s.n % 4).toNat s.point))
def Shp.cells (s : Shp) : List Value := [.int .i64 s.k, .int .i64 s.dp, .int .i64 s.n, .int .u64 s.x, .int .u64 s.y, .bool s.lt]

theorem finB_lt {x : Nat} (h : x < 18446744073709551616) : finB x < 18446744073709551616 := by unfold finB; split <;> omega
theorem finB_fin {x : Nat} : cls (finB x) ≤ 2 := by
  unfold finB
  split
  · rename_i h
    unfold cls
    rw [if_neg (by omega), if_pos (by omega)]; decide
  · rename_i h
    unfold cls
    split
    · split <;> decide
    · rw [if_pos (by omega)]; decide

theorem clear_bit (a : Nat) (ha : a < 2 ^ 64) (h : a / 2 ^ 52 % 2 = 1) : a &&& (2 ^ 64 - (2 ^ 52 + 1)) = a - 2 ^ 52 := by
  apply Nat.eq_of_testBit_eq
  intro j
  rw [Nat.testBit_and, Nat.testBit_two_pow_sub_succ (by decide), Nat.testBit_two_pow]
  have e1 : a = 2 ^ 52 * (a / 2 ^ 52) + a % 2 ^ 52 := (Nat.div_add_mod _ _).symm
  have e2 : a - 2 ^ 52 = 2 ^ 52 * (a / 2 ^ 52 - 1) + a % 2 ^ 52 := by omega
  have hl : a % 2 ^ 52 < 2 ^ 52 := Nat.mod_lt _ (by decide)
  rw [e2]
  conv => lhs; lhs; rw [e1]
  rw [Nat.testBit_two_pow_mul_add _ hl, Nat.testBit_two_pow_mul_add _ hl]
  generalize a / 2 ^ 52 = q at *
  by_cases hj : j < 52
  · rw [if_pos hj, if_pos hj]
    have : decide (j < 64) = true := by simp; omega
    have h2 : decide (52 = j) = false := by simp; omega
    rw [this, h2]; simp
  · rw [if_neg hj, if_neg hj]
    obtain ⟨k, rfl⟩ : ∃ k, j = 52 + k := ⟨j - 52, by omega⟩
    rw [show 52 + k - 52 = k by omega]
    cases k with
    | zero => 
      have : (q - 1).testBit 0 = false := by rw [Nat.testBit_zero]; simp; omega
      rw [this]; simp
    | succ k =>
      have h2 : decide (52 = 52 + (k + 1)) = false := by simp
      rw [h2, Nat.testBit_succ, Nat.testBit_succ, show (q - 1) / 2 = q / 2 by omega]
      by_cases h64 : 52 + (k + 1) < 64
      · simp [h64]
      · have : (q / 2).testBit k = false := by
          apply Nat.testBit_lt_two_pow
          have hq : q < 2 ^ 12 := by omega
          have : 2 ^ 11 ≤ 2 ^ k := Nat.pow_le_pow_right (by decide) (by omega)
          omega
        rw [this]; simp
theorem andNot_nat (x : Nat) (hx : x < 18446744073709551616) (h : x / 4503599627370496 % 2 = 1) : (BitVec.ofInt 64 (x : Int) &&& ~~~ BitVec.ofInt 64 4503599627370496).toNat = x - 4503599627370496 := by
  rw [BitVec.toNat_and, BitVec.toNat_not, BitVec.ofInt_natCast, BitVec.toNat_ofNat, Nat.mod_eq_of_lt (by omega), show (4503599627370496 : Int) = ((4503599627370496 : Nat) : Int) from rfl, BitVec.ofInt_natCast, BitVec.toNat_ofNat]
  exact clear_bit x (by omega) (by omega)
theorem andNot52 (x : Nat) (hx : x < 18446744073709551616) (h : x / 4503599627370496 % 2048 = 2047) : bits .andNot .u64 (x : Int) 4503599627370496 = ((x - 4503599627370496 : Nat) : Int) := by
  show IntKind.u64.wrap ((BitVec.ofInt 64 (x : Int) &&& ~~~ BitVec.ofInt 64 4503599627370496).toNat : Int) = _
  rw [andNot_nat x hx (by omega), wraps_u64 _ (by omega) (by omega)]

theorem fin_any (x : Nat) (w : World) (hx : x < 18446744073709551616) : Calls Tryd.prog 54 #[.int .u64 x] w fun e w' => e = .returned (.int .u64 (finB x)) ∧ w = w' := by
  have h1 := u64_low11 ((x : Int) / 4503599627370496) (by omega) (by omega)
  by_cases h : x / 4503599627370496 % 2048 = 2047
  · have h3 : (x : Int) / 4503599627370496 % 2048 = 2047 := by omega
    rw [h3] at h1
    have h2 := andNot52 x hx h
    have hf : finB x = x - 4503599627370496 := by unfold finB; rw [if_pos h]
    have HF := Lib.hid hf
    clear hf h h3
    go_enter Tryd.func54, Tryd.ntmps54
    go_wp2
    go_ret
    exact ⟨by rw [HF.out]; rfl, rfl⟩
  · have h3 : ((((x : Int) / 4503599627370496) % 2048) == 2047) = false := by simp; omega
    have hf : finB x = x := by unfold finB; rw [if_neg h]
    have HF := Lib.hid hf
    clear hf h
    go_enter Tryd.func54, Tryd.ntmps54
    go_wp2
    go_ret
    exact ⟨by rw [HF.out]; rfl, rfl⟩
end Go.Proofs.YtlffgepnhhnadaaDoor.Pl
