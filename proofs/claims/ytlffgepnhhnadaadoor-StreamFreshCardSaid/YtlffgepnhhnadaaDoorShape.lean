/- Rows that the call made; a law's shape, its tree walked, and that it can be written and read. -/
import Derived.Test.YtlffgepnhhnadaaDoorSums
import Derived.Deep.DeepMust
namespace Go.Proofs.YtlffgepnhhnadaaDoor.Pl
open Go.RowKit

theorem Sl.of_own {B : Nat} {w : World} {e : TypeId} {k n : Nat} {v : Value} {xs : List Value} (h : w.ownsRow B e k v n xs) (hn : n ≤ 140737488355328) : Sl (fun b => B ≤ b) w v n xs := by
  obtain ⟨h0, ⟨rfl, h2⟩ | ⟨g, cap, cur, hv, hb, hg, h3, h4, h5, h6⟩⟩ := h
  · refine ⟨_, _, by rw [h2], by omega, hn, .inl ?_⟩
    exact List.eq_nil_of_length_eq_zero (by rw [h0, h2]; simp)
  · refine ⟨_, _, hv, h3, hn, .inr ⟨g, 0, rfl, hb, fun i c hc => ?_⟩⟩
    have := World.ownsRow.cells (show w.ownsRow B e k v n xs from ⟨h0, .inr ⟨g, cap, cur, hv, hb, hg, h3, h4, h5, h6⟩⟩) (g := g) (by rw [hv]; rfl) i c hc
    rw [add0] at this
    rw [Nat.zero_add]; exact this

theorem Tryd.infoPt : (Tryd.prog.info? 71).map (fun i => (i.zero, i.size, i.bytes)) = some (some (.agg #[.int .u64 0, .int .u64 0]), 2, 16) := by kernel_rfl
theorem Tryd.infoBs : (Tryd.prog.info? 35).map (fun i => (i.zero, i.size, i.bytes)) = some (some (.slice none 0 0), 1, 24) := by kernel_rfl
theorem pts_one (p : Pt) (l : List Pt) : ∀ u ∈ ptCells (p :: l), u.oneCell' = true := by
  have : ∀ (l : List Pt), ∀ u ∈ ptCells l, u.oneCell' = true := by
    intro l
    induction l with
    | nil => simp [ptCells]
    | cons q l ih =>
      intro u hu
      simp only [ptCells, List.mem_cons] at hu
      rcases hu with rfl | rfl | hu
      · rfl
      · rfl
      · exact ih u hu
  exact this _
/-- append of points to points -/
theorem list_appendPt {w : World} {ops : Array Oper} {rest : List Oper} {o : Oper} {a : Act} {Q : Exit → Act → World → Prop} (hgd : o.guard = none) (s x : Operand)
    (ho : o.op = .call { callee := .builtin .append, args := #[s, x], argTypes := #[48, 48] }) {B yb n m c : Nat} (v : Value) {vs news : List Value} (hs : a.eval s = v) (hx : a.eval x = .slice (some ⟨yb, 0, none⟩) m c) (hv : w.ownsRow B 71 2 v n vs)
    (hnl : news.length = m * 2) (hy : ∀ j u, news[j]? = some u → w.cell? ⟨yb, j, none⟩ = some u) (hu : ∀ u ∈ news, u.oneCell' = true) (hm : 0 < m) (hl : n + m ≤ 1099511627776) (hB : B ≤ w.heap.size)
    (h : ∀ g cap w', w'.ownsRow B 71 2 (.slice (some ⟨g, 0, none⟩) (n + m) cap) (n + m) (vs ++ news) → w.grownBy w' v.ownBlock → (v.ownBlock = some g ∨ g = w.heap.size) → g < w'.heap.size → wpList Tryd.prog ops Q rest (a.put o.dst (.slice (some ⟨g, 0, none⟩) (n + m) cap)) w') :
    wpList Tryd.prog ops Q (o :: rest) a w := by
  obtain ⟨i0, hi, hz0, hz1, hz2⟩ := info_parts Tryd.infoPt
  refine wpList_append_lies w hgd s x 48 ho B 71 i0 (.agg #[.int .u64 0, .int .u64 0]) 2 16 Tryd.underlying48 hi hz0 hz1 hz2 rfl (by decide) v n vs hs hv ⟨yb, 0, none⟩ m c news hx hnl ?_ hu hm (by unfold maxLen; omega) (by omega) hB w.heap.size rfl h
  intro j u hj
  rw [add0]; exact hy j u hj
/-- append of trees to trees -/
theorem list_appendGs {w : World} {ops : Array Oper} {rest : List Oper} {o : Oper} {a : Act} {Q : Exit → Act → World → Prop} (hgd : o.guard = none) (s x : Operand)
    (ho : o.op = .call { callee := .builtin .append, args := #[s, x], argTypes := #[40, 40] }) {B n m c : Nat} (ad : Addr) (v : Value) {vs news : List Value} (hs : a.eval s = v) (hx : a.eval x = .slice (some ad) m c) (hv : w.ownsRow B 51 4 v n vs)
    (hnl : news.length = m * 4) (hy : ∀ j u, news[j]? = some u → w.cell? (ad.add j) = some u) (hu : ∀ u ∈ news, u.oneCell' = true) (hm : 0 < m) (hl : n + m ≤ 1099511627776) (hB : B ≤ w.heap.size)
    (h : ∀ g cap w', w'.ownsRow B 51 4 (.slice (some ⟨g, 0, none⟩) (n + m) cap) (n + m) (vs ++ news) → w.grownBy w' v.ownBlock → (v.ownBlock = some g ∨ g = w.heap.size) → g < w'.heap.size → wpList Tryd.prog ops Q rest (a.put o.dst (.slice (some ⟨g, 0, none⟩) (n + m) cap)) w') :
    wpList Tryd.prog ops Q (o :: rest) a w := by
  obtain ⟨i0, hi, hz0, hz1, hz2⟩ := info_parts Tryd.infoGx
  exact wpList_append_lies w hgd s x 40 ho B 51 i0 (.agg #[.int .i64 0, .slice none 0 0, .slice none 0 0, .slice none 0 0]) 4 80 Tryd.underGx hi hz0 hz1 hz2 rfl (by decide) v n vs hs hv ad m c news hx hnl hy hu hm (by unfold maxLen; omega) (by omega) hB w.heap.size rfl h
/-- append of a slice of bytes to slices of bytes -/
theorem list_appendBs {w : World} {ops : Array Oper} {rest : List Oper} {o : Oper} {a : Act} {Q : Exit → Act → World → Prop} (hgd : o.guard = none) (s x : Operand)
    (ho : o.op = .call { callee := .builtin .append, args := #[s, x], argTypes := #[29, 29] }) {B yb n : Nat} (v : Value) {vs : List Value} {A : Option Addr} {p q : Nat} (hs : a.eval s = v) (hx : a.eval x = .slice (some ⟨yb, 0, none⟩) 1 1) (hv : w.ownsRow B 35 1 v n vs)
    (hy : w.cell? ⟨yb, 0, none⟩ = some (.slice A p q)) (hl : n + 1 ≤ 1099511627776) (hB : B ≤ w.heap.size)
    (h : ∀ g cap w', w'.ownsRow B 35 1 (.slice (some ⟨g, 0, none⟩) (n + 1) cap) (n + 1) (vs ++ [.slice A p q]) → w.grownBy w' v.ownBlock → (v.ownBlock = some g ∨ g = w.heap.size) → g < w'.heap.size → wpList Tryd.prog ops Q rest (a.put o.dst (.slice (some ⟨g, 0, none⟩) (n + 1) cap)) w') :
    wpList Tryd.prog ops Q (o :: rest) a w := by
  obtain ⟨i0, hi, hz0, hz1, hz2⟩ := info_parts Tryd.infoBs
  refine wpList_append_lies w hgd s x 29 ho B 35 i0 (.slice none 0 0) 1 24 Tryd.underlying29 hi hz0 hz1 hz2 rfl (by decide) v n vs hs hv ⟨yb, 0, none⟩ 1 1 [.slice A p q] hx rfl ?_ (by simp [Value.oneCell']) (by omega) (by unfold maxLen; omega) (by omega) hB w.heap.size rfl h
  intro j u hj
  rw [add0]
  match j, hj with
  | 0, hj => simp at hj; subst hj; exact hy

/-- a law's shape -/
structure Shp where
  k : Int
  dp : Int
  n : Int
  x : Nat
  y : Nat
  lt : Bool
def Shp.ok (s : Shp) : Prop := s.x < 18446744073709551616 ∧ s.y < 18446744073709551616
def finB (x : Nat) : Nat := if x / 4503599627370496 % 2048 = 2047 then x - 4503599627370496 else x
def Shp.pt (s : Shp) : Pt := (finB s.x, finB s.y)
def Shp.point (s : Shp) : G := .mk 1 [s.pt] [] []
def pairs (p : Pt) : Nat → List Pt
  | 0 => []
  | n + 1 => pairs p n ++ [p, (p.2, p.1)]
def nest : Nat → G → G
  | 0, g => g
  | n + 1, g => .mk 7 [] [] [nest n g]
def Shp.made (s : Shp) : G :=
  if s.k % 4 = 0 then s.point
  else if s.k % 4 = 1 then .mk 1 [] [] []
  else if s.k % 4 = 2 then .mk 2 (pairs s.pt (s.n % 4).toNat) [] []
  else nest (s.dp % 5).toNat (.mk 7 [] [] (List.replicate (s.n % 4).toNat s.point))
def Shp.cells (s : Shp) : List Value := [.int .i64 s.k, .int .i64 s.dp, .int .i64 s.n, .int .u64 s.x, .int .u64 s.y, .bool s.lt]

theorem finB_lt {x : Nat} (h : x < 18446744073709551616) : finB x < 18446744073709551616 := by unfold finB; split <;> omega
theorem finB_fin {x : Nat} : cls (finB x) ≤ 2 := by
  unfold finB
  split
  · rename_i h
    unfold cls
    rw [if_neg (by omega), if_pos (by omega)]; decide
  · rename_i h
    unfold cls
    split
    · split <;> decide
    · rw [if_pos (by omega)]; decide

theorem clear_bit (a : Nat) (ha : a < 2 ^ 64) (h : a / 2 ^ 52 % 2 = 1) : a &&& (2 ^ 64 - (2 ^ 52 + 1)) = a - 2 ^ 52 := by
  apply Nat.eq_of_testBit_eq
  intro j
  rw [Nat.testBit_and, Nat.testBit_two_pow_sub_succ (by decide), Nat.testBit_two_pow]
  have e1 : a = 2 ^ 52 * (a / 2 ^ 52) + a % 2 ^ 52 := (Nat.div_add_mod _ _).symm
  have e2 : a - 2 ^ 52 = 2 ^ 52 * (a / 2 ^ 52 - 1) + a % 2 ^ 52 := by omega
  have hl : a % 2 ^ 52 < 2 ^ 52 := Nat.mod_lt _ (by decide)
  rw [e2]
  conv => lhs; lhs; rw [e1]
  rw [Nat.testBit_two_pow_mul_add _ hl, Nat.testBit_two_pow_mul_add _ hl]
  generalize a / 2 ^ 52 = q at *
  by_cases hj : j < 52
  · rw [if_pos hj, if_pos hj]
    have : decide (j < 64) = true := by simp; omega
    have h2 : decide (52 = j) = false := by simp; omega
    rw [this, h2]; simp
  · rw [if_neg hj, if_neg hj]
    obtain ⟨k, rfl⟩ : ∃ k, j = 52 + k := ⟨j - 52, by omega⟩
    rw [show 52 + k - 52 = k by omega]
    cases k with
    | zero => 
      have : (q - 1).testBit 0 = false := by rw [Nat.testBit_zero]; simp; omega
      rw [this]; simp
    | succ k =>
      have h2 : decide (52 = 52 + (k + 1)) = false := by simp
      rw [h2, Nat.testBit_succ, Nat.testBit_succ, show (q - 1) / 2 = q / 2 by omega]
      by_cases h64 : 52 + (k + 1) < 64
      · simp [h64]
      · have : (q / 2).testBit k = false := by
          apply Nat.testBit_lt_two_pow
          have hq : q < 2 ^ 12 := by omega
          have : 2 ^ 11 ≤ 2 ^ k := Nat.pow_le_pow_right (by decide) (by omega)
          omega
        rw [this]; simp
theorem andNot_nat (x : Nat) (hx : x < 18446744073709551616) (h : x / 4503599627370496 % 2 = 1) : (BitVec.ofInt 64 (x : Int) &&& ~~~ BitVec.ofInt 64 4503599627370496).toNat = x - 4503599627370496 := by
  rw [BitVec.toNat_and, BitVec.toNat_not, BitVec.ofInt_natCast, BitVec.toNat_ofNat, Nat.mod_eq_of_lt (by omega), show (4503599627370496 : Int) = ((4503599627370496 : Nat) : Int) from rfl, BitVec.ofInt_natCast, BitVec.toNat_ofNat]
  exact clear_bit x (by omega) (by omega)
theorem andNot52 (x : Nat) (hx : x < 18446744073709551616) (h : x / 4503599627370496 % 2048 = 2047) : bits .andNot .u64 (x : Int) 4503599627370496 = ((x - 4503599627370496 : Nat) : Int) := by
  show IntKind.u64.wrap ((BitVec.ofInt 64 (x : Int) &&& ~~~ BitVec.ofInt 64 4503599627370496).toNat : Int) = _
  rw [andNot_nat x hx (by omega), wraps_u64 _ (by omega) (by omega)]

theorem fin_any (x : Nat) (w : World) (hx : x < 18446744073709551616) : Calls Tryd.prog 54 #[.int .u64 x] w fun e w' => e = .returned (.int .u64 (finB x)) ∧ w = w' := by
  have h1 := u64_low11 ((x : Int) / 4503599627370496) (by omega) (by omega)
  by_cases h : x / 4503599627370496 % 2048 = 2047
  · have h3 : (x : Int) / 4503599627370496 % 2048 = 2047 := by omega
    rw [h3] at h1
    have h2 := andNot52 x hx h
    have hf : finB x = x - 4503599627370496 := by unfold finB; rw [if_pos h]
    have HF := Lib.hid hf
    clear hf h h3
    go_enter Tryd.func54, Tryd.ntmps54
    go_wp2
    go_ret
    exact ⟨by rw [HF.out]; rfl, rfl⟩
  · have h3 : ((((x : Int) / 4503599627370496) % 2048) == 2047) = false := by simp; omega
    have hf : finB x = x := by unfold finB; rw [if_neg h]
    have HF := Lib.hid hf
    clear hf h
    go_enter Tryd.func54, Tryd.ntmps54
    go_wp2
    go_ret
    exact ⟨by rw [HF.out]; rfl, rfl⟩

/-- what lies behind the first three statements of made -/
structure MadeS (w W : World) (s : Shp) : Prop where
  below : Below w.heap.size w W
  b0 : W.heap[w.heap.size]? = some (.cells #[.int .i64 s.k, .int .i64 s.dp, .int .i64 s.n, .int .u64 s.x, .int .u64 s.y, .bool s.lt] 54 (0, 0))
  b1 : W.heap[w.heap.size + 1]? = some (.cells #[.int .i64 0, .slice none 0 0, .slice none 0 0, .slice none 0 0] 51 (0, 0))
  b2 : W.heap[w.heap.size + 2]? = some (.cells #[.int .u64 s.pt.1, .int .u64 s.pt.2] 71 (0, 0))
  b3 : W.heap[w.heap.size + 3]? = some (.cells #[.int .u64 s.pt.1, .int .u64 s.pt.2] 71 (0, 0))
  b4 : W.heap[w.heap.size + 4]? = some (.cells #[.int .i64 1, .slice (some ⟨w.heap.size + 3, 0, none⟩) 1 1, .slice none 0 0, .slice none 0 0] 51 (0, 0))
  size : W.heap.size = w.heap.size + 5
theorem MadeS.point {w W : World} {s : Shp} (h : MadeS w W s) (hs : s.ok) : IsG (fun b => b = w.heap.size + 3) W s.point [.int .i64 1, .slice (some ⟨w.heap.size + 3, 0, none⟩) 1 1, .slice none 0 0, .slice none 0 0] := by
  simp only [Shp.point, IsG]
  refine ⟨_, _, _, rfl, ⟨?_, _, _, rfl, Nat.le_refl _, by simp, .inr ⟨_, _, rfl, rfl, fun i c hc => ?_⟩⟩, ⟨[], Sl.nil _ _, .nil⟩, [], Sl.nil _ _, rfl⟩
  · intro p hp
    simp at hp; subst hp
    exact ⟨finB_lt hs.1, finB_lt hs.2⟩
  · rw [Nat.zero_add]
    exact cell_row h.b3 (by simpa [ptCells] using hc)
/-- two cells written -/
theorem two_set {gb : Nat} {V W : World} {z0 z1 : Value} {t1 : TypeId} (hg : V.heap[gb]? = some (.cells #[z0, z1] t1 (0, 0))) (x0 x1 : Value)
    (hW : W = (V.setCell ⟨gb, 0, none⟩ x0).setCell ⟨gb, 1, none⟩ x1) :
    W.heap[gb]? = some (.cells #[x0, x1] t1 (0, 0)) ∧ (∀ b, b ≠ gb → W.heap[b]? = V.heap[b]?) ∧ W.heap.size = V.heap.size := by
  have s0 := heap_store (cs := [z0, z1]) hg (j := 0) x0
  have s1 := heap_store (cs := [x0, z1]) (by simpa using s0) (j := 1) x1
  refine ⟨by rw [hW]; simpa using s1, fun b h1 => ?_, by rw [hW]; simp [World.setCell]⟩
  rw [hW, Below.heap_setCell _ _ _ b h1, Below.heap_setCell _ _ _ b h1]

theorem pairs_length (p : Pt) : ∀ n, (pairs p n).length = 2 * n
  | 0 => rfl
  | n + 1 => by simp [pairs, pairs_length p n]; omega
theorem pairs_ok {p : Pt} (h1 : p.1 < 18446744073709551616) (h2 : p.2 < 18446744073709551616) : ∀ n, ∀ q ∈ pairs p n, PtOk q
  | 0 => by simp [pairs]
  | n + 1 => by
    intro q hq
    simp only [pairs, List.mem_append, List.mem_cons, List.not_mem_nil, or_false] at hq
    rcases hq with hq | rfl | rfl
    · exact pairs_ok h1 h2 n q hq
    · exact ⟨h1, h2⟩
    · exact ⟨h2, h1⟩
/-- the second of four cells written -/
theorem two_lift {w : World} {g : Nat} {a b c d : Value} {t : TypeId} (h : w.heap[g]? = some (.cells #[a, b, c, d] t (0, 0))) (u : Value) :
    (w.setCell ⟨g, 1, none⟩ u).heap[g]? = some (.cells #[a, u, c, d] t (0, 0)) ∧ ∀ k, k ≠ g → (w.setCell ⟨g, 1, none⟩ u).heap[k]? = w.heap[k]? := by
  have s0 := heap_store (cs := [a, b, c, d]) h (j := 1) u
  exact ⟨by simpa using s0, fun k hk => Below.heap_setCell _ _ _ k hk⟩
/-- the fourth of four cells written -/
theorem four_lift {w : World} {g : Nat} {a b c d : Value} {t : TypeId} (h : w.heap[g]? = some (.cells #[a, b, c, d] t (0, 0))) (u : Value) :
    (w.setCell ⟨g, 3, none⟩ u).heap[g]? = some (.cells #[a, b, c, u] t (0, 0)) ∧ ∀ k, k ≠ g → (w.setCell ⟨g, 3, none⟩ u).heap[k]? = w.heap[k]? := by
  have s0 := heap_store (cs := [a, b, c, d]) h (j := 3) u
  exact ⟨by simpa using s0, fun k hk => Below.heap_setCell _ _ _ k hk⟩
def repC (c : List Value) : Nat → List Value
  | 0 => []
  | n + 1 => repC c n ++ c
theorem isGs_rep {ok : Nat → Prop} {w : World} {g : G} {c : List Value} (h : IsG ok w g c) : ∀ n, IsGs ok w (List.replicate n g) (repC c n)
  | 0 => by simp [IsGs, repC]
  | n + 1 => by rw [List.replicate_succ']; exact (isGs_rep h n).append (IsGs.one h)
theorem alloc_size (w : World) (o : Obj) : (w.alloc o).heap.size = w.heap.size + 1 := Array.size_push _
theorem alloc_old (w : World) (o : Obj) {b : Nat} (h : b < w.heap.size) : (w.alloc o).heap[b]? = w.heap[b]? := ((Below.refl w.heap.size w).alloc (Nat.le_refl _) o).block b h

set_option maxRecDepth 100000 in
set_option maxHeartbeats 2000000 in
theorem made_any (s : Shp) (w : World) (hs : s.ok) :
    Calls Tryd.prog 38 #[.agg s.cells.toArray] w fun e w' => ∃ cs, e = .returned (.agg cs.toArray) ∧ IsG (fun b => w.heap.size ≤ b) w' s.made cs ∧ Below w.heap.size w w' := by
  have HX := Lib.hid (fun W => fin_any s.x W hs.1)
  have HY := Lib.hid (fun W => fin_any s.y W hs.2)
  simp only [Shp.cells]
  obtain ⟨wa, hwa⟩ : ∃ wa, wa = (w.alloc (.cells #[.int .i64 s.k, .int .i64 s.dp, .int .i64 s.n, .int .u64 s.x, .int .u64 s.y, .bool s.lt] 54)).alloc (.cells #[.int .i64 0, .slice none 0 0, .slice none 0 0, .slice none 0 0] 51) := ⟨_, rfl⟩
  have hba : Below w.heap.size w wa := by
    rw [hwa]
    have h1 := (Below.refl w.heap.size w).alloc (Nat.le_refl _) (.cells #[.int .i64 s.k, .int .i64 s.dp, .int .i64 s.n, .int .u64 s.x, .int .u64 s.y, .bool s.lt] 54)
    exact h1.alloc h1.size _
  have hsa : wa.heap.size = w.heap.size + 2 := by rw [hwa, alloc_size, alloc_size]
  have ha0 : wa.heap[w.heap.size]? = some (.cells #[.int .i64 s.k, .int .i64 s.dp, .int .i64 s.n, .int .u64 s.x, .int .u64 s.y, .bool s.lt] 54 (0, 0)) := by
    rw [hwa, alloc_old _ _ (by rw [alloc_size]; omega)]; exact World.alloc_heap_new _ _
  have ha1 : wa.heap[w.heap.size + 1]? = some (.cells #[.int .i64 0, .slice none 0 0, .slice none 0 0, .slice none 0 0] 51 (0, 0)) := by
    rw [hwa, ← alloc_size w (.cells #[.int .i64 s.k, .int .i64 s.dp, .int .i64 s.n, .int .u64 s.x, .int .u64 s.y, .bool s.lt] 54)]; exact World.alloc_heap_new _ _
  have HA := Lib.hid (And.intro hba (And.intro ha0 (And.intro ha1 hsa)))
  have c3 := cell_row (cs := [_, _, _, _, _, _]) (j := 3) ha0 rfl
  have c4 := cell_row (cs := [_, _, _, _, _, _]) (j := 4) ha0 rfl
  have HSK : Hid (∀ W : World, Below wa.heap.size wa W → W.cell? ⟨w.heap.size, 3, none⟩ = some (.int .u64 s.x) ∧ W.cell? ⟨w.heap.size, 4, none⟩ = some (.int .u64 s.y)) :=
    Lib.hid fun W hW => ⟨(hW.cell (p := ⟨w.heap.size, 3, none⟩) (lt_of_cell c3)).trans c3, (hW.cell (p := ⟨w.heap.size, 4, none⟩) (lt_of_cell c4)).trans c4⟩
  have HAL := Lib.hid (show Below wa.heap.size wa (wa.drew.alloc (.cells #[.int .u64 0, .int .u64 0] 71)) from by have h := (Below.refl wa.heap.size wa.drew).alloc (Nat.le_refl _) (.cells #[.int .u64 0, .int .u64 0] 71); exact ⟨h.os, h.tape, h.output, h.size, h.block⟩)
  have HAM := Lib.hid (show Below wa.heap.size wa (wa.alloc (.cells #[.int .u64 (finB s.x), .int .u64 (finB s.y)] 71)).drew from by have h := (Below.refl wa.heap.size wa).alloc (Nat.le_refl _) (.cells #[.int .u64 (finB s.x), .int .u64 (finB s.y)] 71); exact ⟨h.os, h.tape, h.output, h.size, h.block⟩)
  clear hba ha0 ha1 hsa c3 c4
  go_enter Tryd.func38, Tryd.ntmps38
  go_upto_region 1 with (fail)
  rw [← hwa]
  clear hwa
  go_cut [3] (fun v W => v = .pointer (some ⟨w.heap.size + 2, 0, none⟩) ∧ Below wa.heap.size wa W ∧ W.heap[w.heap.size + 2]? = some (.cells #[.int .u64 s.pt.1, .int .u64 s.pt.2] 71 (0, 0)) ∧ W.heap.size = w.heap.size + 3)
  case first =>
    go_region_held3 (fun W => W.cell? ⟨w.heap.size, 3, none⟩ = some (.int .u64 s.x) ∧ W.cell? ⟨w.heap.size, 4, none⟩ = some (.int .u64 s.y))
      (first
        | exact HSK.out _ (below_drew0 _)
        | exact HSK.out _ HAL.out
        | exact HSK.out _ HAM.out)
      ((first
        | (go_at_call_of 54 (s.x)
           refine (HX.out _).mono ?_
           rintro e w' ⟨rfl, rfl⟩)
        | (go_at_call_of 54 (s.y)
           refine (HY.out _).mono ?_
           rintro e w' ⟨rfl, rfl⟩)))
    all_goals
      go_wp2_with fail
      go_meet
      case rel =>
        have e := HA.out.2.2.2
        refine ⟨by rw [e], HAM.out, ?_, ?_⟩
        · rw [← e]; exact World.alloc_heap_new _ _
        · rw [show w.heap.size + 3 = wa.heap.size + 1 by omega]; exact alloc_size _ _
  case rest =>
    obtain ⟨rfl, hbc, hcb, hcs⟩ := hcut
    obtain ⟨w3, hw3⟩ : ∃ w3, w3 = (wc.alloc (.cells #[.int .u64 s.pt.1, .int .u64 s.pt.2] 71)).alloc (.cells #[.int .i64 1, .slice (some ⟨w.heap.size + 3, 0, none⟩) 1 1, .slice none 0 0, .slice none 0 0] 51) := ⟨_, rfl⟩
    have hM : MadeS w w3 s := by
      have e := HA.out.2.2.2
      have h1 := (Below.refl wc.heap.size wc).alloc (Nat.le_refl _) (.cells #[.int .u64 s.pt.1, .int .u64 s.pt.2] 71)
      have h2 : Below wc.heap.size wc w3 := by rw [hw3]; exact h1.alloc h1.size _
      have hz := alloc_size wc (.cells #[.int .u64 s.pt.1, .int .u64 s.pt.2] 71)
      refine ⟨HA.out.1.trans ((hbc.trans (h2.mono hbc.size)).mono HA.out.1.size), ?_, ?_, ?_, ?_, ?_, ?_⟩
      · exact (h2.block _ (by omega)).trans ((hbc.block _ (by omega)).trans HA.out.2.1)
      · exact (h2.block _ (by omega)).trans ((hbc.block _ (by omega)).trans HA.out.2.2.1)
      · exact (h2.block _ (by omega)).trans hcb
      · rw [hw3, alloc_old _ _ (by omega), ← hcs]; exact World.alloc_heap_new _ _
      · rw [hw3, show w.heap.size + 4 = (wc.alloc (.cells #[.int .u64 s.pt.1, .int .u64 s.pt.2] 71)).heap.size by omega]; exact World.alloc_heap_new _ _
      · rw [hw3, alloc_size]; omega
    have p0 := cell_row (cs := [_, _]) (j := 0) hcb rfl
    have p1 := cell_row (cs := [_, _]) (j := 1) hcb rfl
    have HM := Lib.hid hM
    have m0 := cell_row (cs := [_, _, _, _, _, _]) (j := 0) hM.b0 rfl
    clear hM HSK HAL HAM HA hbc hcb
    have HIK := Lib.hid (into_any s.k 4 w3 (by omega) (by omega))
    have HIN := Lib.hid (fun n W => into_any n 4 W (by omega) (by omega))
    have HID := Lib.hid (fun n W => into_any n 5 W (by omega) (by omega))
    have hk4 : s.k % 4 = 0 ∨ s.k % 4 = 1 ∨ s.k % 4 = 2 ∨ s.k % 4 = 3 := by omega
    go_upto_region 3 with (fail)
    rw [← hw3]
    clear hw3 p0 p1 hcs
    go_wp2_with fail
    refine HIK.out.mono ?_
    rintro e w' ⟨rfl, rfl⟩
    have r0 := cell_row (cs := [_, _, _, _]) (j := 0) HM.out.b1 rfl
    have r1 := cell_row (cs := [_, _, _, _]) (j := 1) HM.out.b1 rfl
    have r2 := cell_row (cs := [_, _, _, _]) (j := 2) HM.out.b1 rfl
    have r3 := cell_row (cs := [_, _, _, _]) (j := 3) HM.out.b1 rfl
    have f0 := frozen_of_row w3 (w.heap.size + 1) 0 _ _ HM.out.b1
    have f1 := frozen_of_row w3 (w.heap.size + 1) 1 _ _ HM.out.b1
    have f2 := frozen_of_row w3 (w.heap.size + 1) 2 _ _ HM.out.b1
    have f3 := frozen_of_row w3 (w.heap.size + 1) 3 _ _ HM.out.b1
    have q0 := cell_row (cs := [_, _, _, _]) (j := 0) HM.out.b4 rfl
    have q1 := cell_row (cs := [_, _, _, _]) (j := 1) HM.out.b4 rfl
    have q2 := cell_row (cs := [_, _, _, _]) (j := 2) HM.out.b4 rfl
    have q3 := cell_row (cs := [_, _, _, _]) (j := 3) HM.out.b4 rfl
    rcases hk4 with hk | hk | hk | hk
    · have hmade : s.made = s.point := by unfold Shp.made; rw [if_pos hk]
      rw [hk]
      go_wp2_with fail
      obtain ⟨e1, e2, e3, e4⟩ := four_set HM.out.b1 (.int .i64 1) (.slice (some ⟨w.heap.size + 3, 0, none⟩) 1 1) (.slice none 0 0) (.slice none 0 0) rfl
      refine bodyPost_ret (v := .agg #[.int .i64 1, .slice (some ⟨w.heap.size + 3, 0, none⟩) 1 1, .slice none 0 0, .slice none 0 0]) ?_ rfl ?_
      · refine results_cell_row (p := 2) (ty := 51) Tryd.results38 _ _ (w.heap.size + 1) _ _ _ _ ?_ e1 Tryd.underlying51 rfl Tryd.infoG4
        rfl
      refine ⟨[_, _, _, _], rfl, ?_, e4 _ _ (by omega) HM.out.below⟩
      rw [hmade]
      exact ((HM.out.point hs).keeps (fun b o hb ho _ => by subst hb; exact (e2 _ (by omega)).trans ho)).mono fun b _ hb => by omega
    · have hmade : s.made = .mk 1 [] [] [] := by unfold Shp.made; rw [if_neg (by omega), if_pos hk]
      rw [hk]
      go_wp2_with fail
      obtain ⟨e1, e2, e3, e4⟩ := four_set HM.out.b1 (.int .i64 1) (.slice none 0 0) (.slice none 0 0) (.slice none 0 0) rfl
      refine bodyPost_ret (v := .agg #[.int .i64 1, .slice none 0 0, .slice none 0 0, .slice none 0 0]) ?_ rfl ?_
      · refine results_cell_row (p := 2) (ty := 51) Tryd.results38 _ _ (w.heap.size + 1) _ _ _ _ ?_ e1 Tryd.underlying51 rfl Tryd.infoG4
        rfl
      refine ⟨[_, _, _, _], rfl, ?_, e4 _ _ (by omega) HM.out.below⟩
      rw [hmade]
      simp only [IsG]
      exact ⟨_, _, _, rfl, ⟨by simp, Sl.nil _ _⟩, ⟨[], Sl.nil _ _, .nil⟩, [], Sl.nil _ _, rfl⟩
    · have hmade : s.made = .mk 2 (pairs s.pt (s.n % 4).toNat) [] [] := by unfold Shp.made; rw [if_neg (by omega), if_neg (by omega), if_pos hk]
      obtain ⟨w4, hw4⟩ : ∃ w4, w4 = w3.alloc (.cells #[.int .i64 2, .slice none 0 0, .slice none 0 0, .slice none 0 0] 51) := ⟨_, rfl⟩
      have hb4 : Below w3.heap.size w3 w4 := by rw [hw4]; exact (Below.refl _ _).alloc (Nat.le_refl _) _
      have hx4 : w4.heap[w.heap.size + 5]? = some (.cells #[.int .i64 2, .slice none 0 0, .slice none 0 0, .slice none 0 0] 51 (0, 0)) := by rw [hw4, ← HM.out.size]; exact World.alloc_heap_new _ _
      have hs4 : w4.heap.size = w.heap.size + 6 := by rw [hw4, alloc_size, HM.out.size]
      have hsz3 := HM.out.size
      have H4 := Lib.hid (And.intro hb4 (And.intro hx4 hs4))
      clear hb4 hx4 hs4 r0 r1 r2 r3 f0 f1 f2 f3 q0 q1 q2 q3
      rw [hk]
      go_upto_region 10 with (fail)
      rw [← hw4]
      clear hw4 hsz3
      go_wp2_with fail
      go_loopw [6] (fun i W => ∃ j : Nat, j ≤ (s.n % 4).toNat ∧ i = .int .i64 j ∧ Hid (∃ v, Below w3.heap.size w3 W ∧ W.heap[w.heap.size + 5]? = some (.cells #[.int .i64 2, v, .slice none 0 0, .slice none 0 0] 51 (0, 0)) ∧ W.ownsRow (w.heap.size + 6) 71 2 v (2 * j) (ptCells (pairs s.pt j)))) (fun i _ => (s.n % 4).toNat - (intOf i).toNat)
      case atStart => exact ⟨0, Nat.zero_le _, rfl, Lib.hid ⟨_, H4.out.1, H4.out.2.1, World.ownsRow_nil _ _ _ _⟩⟩
      case round =>
        obtain ⟨j, hj, rfl, HR⟩ := hrel
        obtain ⟨v, hbr, hxr, hor⟩ := HR.out
        have HIW := Lib.hid (into_any s.n 4 wr (by omega) (by omega))
        have hsz3 := HM.out.size
        have hsr := hbr.size
        have m2 := cell_row (cs := [_, _, _, _, _, _]) (j := 2) ((hbr.block _ (by omega)).trans HM.out.b0) rfl
        have p0 := cell_row (cs := [_, _]) (j := 0) ((hbr.block _ (by omega)).trans HM.out.b2) rfl
        have p1 := cell_row (cs := [_, _]) (j := 1) ((hbr.block _ (by omega)).trans HM.out.b2) rfl
        have v0 := cell_row (cs := [_, _, _, _]) (j := 0) hxr rfl
        have v1 := cell_row (cs := [_, _, _, _]) (j := 1) hxr rfl
        have v2 := cell_row (cs := [_, _, _, _]) (j := 2) hxr rfl
        have v3 := cell_row (cs := [_, _, _, _]) (j := 3) hxr rfl
        have hl5 := lt_of_heap hxr
        obtain ⟨nn, hnn⟩ : ∃ nn : Nat, s.n % 4 = nn := ⟨(s.n % 4).toNat, by omega⟩
        have hn4 : nn < 4 := by omega
        rw [hnn] at HIW hj ⊢
        by_cases hjn : j < nn
        · have hb5 := (Below.refl wr.heap.size wr).alloc (Nat.le_refl _) (.cells #[.int .u64 s.pt.1, .int .u64 s.pt.2, .int .u64 s.pt.2, .int .u64 s.pt.1] 71)
          have hx5 : (wr.alloc (.cells #[.int .u64 s.pt.1, .int .u64 s.pt.2, .int .u64 s.pt.2, .int .u64 s.pt.1] 71)).heap[wr.heap.size]? = some (.cells #[.int .u64 s.pt.1, .int .u64 s.pt.2, .int .u64 s.pt.2, .int .u64 s.pt.1] 71 (0, 0)) := World.alloc_heap_new _ _
          have HO := Lib.hid (And.intro (ownsRow_below hor hb5) (And.intro hb5 hx5))
          clear hb5 hx5 hor
          go_wp2_with fail
          refine HIW.out.mono ?_
          rintro e w' ⟨rfl, rfl⟩
          go_wp2_with (first
            | (at_builtin
               go_must (
               refine (list_appendPt rfl (.tmp 40) (.tmp 47) rfl (m := 2) (c := 2) (news := [.int .u64 s.pt.1, .int .u64 s.pt.2, .int .u64 s.pt.2, .int .u64 s.pt.1]) v (by rfl) (by rfl) HO.out.1 rfl (fun i u hi => cell_row (cs := [_, _, _, _]) HO.out.2.2 hi) (by simp [Value.oneCell']) (by omega) (by omega) (Nat.le_trans (by omega) HO.out.2.1.size) ?_)
               intro g3 cap3 w5 ho3 hgr3 hg3 hlt3
               have HR3 := Lib.hid (And.intro ho3 (And.intro hgr3 hg3))
               have hx5 : w5.heap[w.heap.size + 5]? = some (.cells #[.int .i64 2, v, .slice none 0 0, .slice none 0 0] 51 (0, 0)) := by
                 rw [hgr3.block _ (by have := HO.out.2.1.size; omega) (fun e => by have := (World.ownsRow.lt HO.out.1 _ e.symm).1; omega), HO.out.2.1.block _ (by omega)]
                 exact hxr
               have HX5 := Lib.hid hx5
               have y1 := cell_row (cs := [_, _, _, _]) (j := 1) hx5 rfl
               have z1 := frozen_of_row w5 (w.heap.size + 5) 1 _ _ hx5
               clear ho3 hgr3 hg3 hx5))
            | fail)
          go_roundw
          · obtain ⟨q1, q2⟩ := two_lift HX5.out (.slice (some ⟨g3, 0, none⟩) (2 * j + 2) cap3)
            refine ⟨j + 1, by omega, by simp, Lib.hid ⟨_, ?_, q1, ?_⟩⟩
            · exact ((hbr.trans (HO.out.2.1.mono hsr)).grown HR3.out.2.1 (Nat.le_trans hsr HO.out.2.1.size) (fun k e => by have := (World.ownsRow.lt HO.out.1 k e).1; omega)).setCell (by simp only; omega) _
            · have h := World.ownsRow.kept HR3.out.1 (grownBy_set w5 ⟨w.heap.size + 5, 1, none⟩ (.slice (some ⟨g3, 0, none⟩) (2 * j + 2) cap3)) (.inr (by
                have := (World.ownsRow.lt HR3.out.1 g3 rfl).1
                simp [Value.ownBlock]; omega))
              rw [show 2 * (j + 1) = 2 * j + 2 by omega]
              simpa [pairs, ptCells_append, ptCells] using h
          · simp [intOf]; omega
        · have hje : j = nn := by omega
          subst hje
          obtain ⟨A, c, rfl, _⟩ := Sl.of_own hor (by omega)
          have r0 := cell_row (cs := [_, _, _, _]) (j := 0) ((hbr.block _ (by omega)).trans HM.out.b1) rfl
          have r1 := cell_row (cs := [_, _, _, _]) (j := 1) ((hbr.block _ (by omega)).trans HM.out.b1) rfl
          have r2 := cell_row (cs := [_, _, _, _]) (j := 2) ((hbr.block _ (by omega)).trans HM.out.b1) rfl
          have r3 := cell_row (cs := [_, _, _, _]) (j := 3) ((hbr.block _ (by omega)).trans HM.out.b1) rfl
          have hb1r := (hbr.block _ (by omega)).trans HM.out.b1
          have f0 := frozen_of_row wr (w.heap.size + 1) 0 _ _ hb1r
          have f1 := frozen_of_row wr (w.heap.size + 1) 1 _ _ hb1r
          have f2 := frozen_of_row wr (w.heap.size + 1) 2 _ _ hb1r
          have f3 := frozen_of_row wr (w.heap.size + 1) 3 _ _ hb1r
          have HXR := Lib.hid (And.intro hb1r (And.intro hor hbr))
          have HNN := Lib.hid hnn
          clear hb1r hor hxr hbr HR hnn
          go_wp2_with fail
          refine HIW.out.mono ?_
          rintro e w' ⟨rfl, rfl⟩
          go_wp2_with fail
          obtain ⟨e1, e2, e3, e4⟩ := four_set HXR.out.1 (.int .i64 2) (.slice A (2 * j) c) (.slice none 0 0) (.slice none 0 0) rfl
          refine bodyPost_ret (v := .agg #[.int .i64 2, .slice A (2 * j) c, .slice none 0 0, .slice none 0 0]) ?_ rfl ?_
          · refine results_cell_row (p := 2) (ty := 51) Tryd.results38 _ _ (w.heap.size + 1) _ _ _ _ ?_ e1 Tryd.underlying51 rfl Tryd.infoG4
            rfl
          refine ⟨[_, _, _, _], rfl, ?_, e4 _ _ (by omega) (HM.out.below.trans (HXR.out.2.2.mono HM.out.below.size))⟩
          rw [hmade, HNN.out]
          simp only [IsG, Int.toNat_natCast]
          refine ⟨_, _, _, rfl, ⟨pairs_ok (finB_lt hs.1) (finB_lt hs.2) j, ?_⟩, ⟨[], Sl.nil _ _, .nil⟩, [], Sl.nil _ _, rfl⟩
          rw [pairs_length]
          refine ((Sl.of_own HXR.out.2.1 (by omega)).keeps fun b o hb ho _ => (e2 _ (by omega)).trans ho).mono fun b _ hb => by omega
    · have hmade : s.made = nest (s.dp % 5).toNat (.mk 7 [] [] (List.replicate (s.n % 4).toNat s.point)) := by unfold Shp.made; rw [if_neg (by omega), if_neg (by omega), if_neg (by omega)]
      obtain ⟨w4, hw4⟩ : ∃ w4, w4 = w3.alloc (.cells #[.int .i64 7, .slice none 0 0, .slice none 0 0, .slice none 0 0] 51) := ⟨_, rfl⟩
      have hb4 : Below w3.heap.size w3 w4 := by rw [hw4]; exact (Below.refl _ _).alloc (Nat.le_refl _) _
      have hx4 : w4.heap[w.heap.size + 5]? = some (.cells #[.int .i64 7, .slice none 0 0, .slice none 0 0, .slice none 0 0] 51 (0, 0)) := by rw [hw4, ← HM.out.size]; exact World.alloc_heap_new _ _
      have hs4 : w4.heap.size = w.heap.size + 6 := by rw [hw4, alloc_size, HM.out.size]
      have hsz3 := HM.out.size
      have H4 := Lib.hid (And.intro hb4 (And.intro hx4 hs4))
      clear hb4 hx4 hs4 r0 r1 r2 r3 f0 f1 f2 f3 q0 q1 q2 q3
      rw [hk]
      go_upto_region 16 with (fail)
      rw [← hw4]
      clear hw4 hsz3
      obtain ⟨C, hC⟩ : ∃ C, C = [Value.int .i64 1, .slice (some ⟨w.heap.size + 3, 0, none⟩) 1 1, .slice none 0 0, .slice none 0 0] := ⟨_, rfl⟩
      have HC := Lib.hid hC
      clear hC
      obtain ⟨nn, hnn⟩ : ∃ nn : Nat, s.n % 4 = nn := ⟨(s.n % 4).toNat, by omega⟩
      obtain ⟨dd, hdd⟩ : ∃ dd : Nat, s.dp % 5 = dd := ⟨(s.dp % 5).toNat, by omega⟩
      have hn4 : nn < 4 := by omega
      have hd5 : dd < 5 := by omega
      have HND := Lib.hid (And.intro hnn hdd)
      clear hnn hdd
      go_wp2_with fail
      go_loopw [8] (fun i W => ∃ j : Nat, j ≤ nn ∧ i = .int .i64 j ∧ Hid (∃ v, Below w3.heap.size w3 W ∧ W.heap[w.heap.size + 5]? = some (.cells #[.int .i64 7, .slice none 0 0, .slice none 0 0, v] 51 (0, 0)) ∧ W.ownsRow (w.heap.size + 6) 51 4 v j (repC C j))) (fun i _ => nn - (intOf i).toNat)
      case atStart => exact ⟨0, Nat.zero_le _, rfl, Lib.hid ⟨_, H4.out.1, H4.out.2.1, World.ownsRow_nil _ _ _ _⟩⟩
      case round =>
        obtain ⟨j, hj, rfl, HR⟩ := hrel
        obtain ⟨v, hbr, hxr, hor⟩ := HR.out
        have HIW := Lib.hid (into_any s.n 4 wr (by omega) (by omega))
        rw [HND.out.1] at HIW
        have hsz3 := HM.out.size
        have hsr := hbr.size
        have m2 := cell_row (cs := [_, _, _, _, _, _]) (j := 2) ((hbr.block _ (by omega)).trans HM.out.b0) rfl
        have p0 := cell_row (cs := [_, _, _, _]) (j := 0) ((hbr.block _ (by omega)).trans HM.out.b4) rfl
        have p1 := cell_row (cs := [_, _, _, _]) (j := 1) ((hbr.block _ (by omega)).trans HM.out.b4) rfl
        have p2 := cell_row (cs := [_, _, _, _]) (j := 2) ((hbr.block _ (by omega)).trans HM.out.b4) rfl
        have p3 := cell_row (cs := [_, _, _, _]) (j := 3) ((hbr.block _ (by omega)).trans HM.out.b4) rfl
        have v3 := cell_row (cs := [_, _, _, _]) (j := 3) hxr rfl
        have hl5 := lt_of_heap hxr
        by_cases hjn : j < nn
        · have hb5 := (Below.refl wr.heap.size wr).alloc (Nat.le_refl _) (.cells #[.int .i64 1, .slice (some ⟨w.heap.size + 3, 0, none⟩) 1 1, .slice none 0 0, .slice none 0 0] 51)
          have hx5 : (wr.alloc (.cells #[.int .i64 1, .slice (some ⟨w.heap.size + 3, 0, none⟩) 1 1, .slice none 0 0, .slice none 0 0] 51)).heap[wr.heap.size]? = some (.cells #[.int .i64 1, .slice (some ⟨w.heap.size + 3, 0, none⟩) 1 1, .slice none 0 0, .slice none 0 0] 51 (0, 0)) := World.alloc_heap_new _ _
          have HO := Lib.hid (And.intro (ownsRow_below hor hb5) (And.intro hb5 hx5))
          clear hb5 hx5 hor
          go_wp2_with fail
          refine HIW.out.mono ?_
          rintro e w' ⟨rfl, rfl⟩
          go_wp2_with (first
            | (at_builtin
               go_must (
               refine (list_appendG rfl (.tmp 60) (.tmp 62) rfl v (by rfl) (by rfl) HO.out.1 (fun i u hi => cell_row (cs := [_, _, _, _]) HO.out.2.2 hi) (by simp [Value.oneCell']) (by omega) (Nat.le_trans (by omega) HO.out.2.1.size) ?_)
               intro g3 cap3 w5 ho3 hgr3 hg3 hlt3
               have HR3 := Lib.hid (And.intro ho3 (And.intro hgr3 hg3))
               have hx5 : w5.heap[w.heap.size + 5]? = some (.cells #[.int .i64 7, .slice none 0 0, .slice none 0 0, v] 51 (0, 0)) := by
                 rw [hgr3.block _ (by have := HO.out.2.1.size; omega) (fun e => by have := (World.ownsRow.lt HO.out.1 _ e.symm).1; omega), HO.out.2.1.block _ (by omega)]
                 exact hxr
               have HX5 := Lib.hid hx5
               have y1 := cell_row (cs := [_, _, _, _]) (j := 3) hx5 rfl
               have z1 := frozen_of_row w5 (w.heap.size + 5) 3 _ _ hx5
               clear ho3 hgr3 hg3 hx5))
            | fail)
          go_roundw
          · obtain ⟨q1, q2⟩ := four_lift HX5.out (.slice (some ⟨g3, 0, none⟩) (j + 1) cap3)
            refine ⟨j + 1, by omega, by simp, Lib.hid ⟨_, ?_, q1, ?_⟩⟩
            · exact ((hbr.trans (HO.out.2.1.mono hsr)).grown HR3.out.2.1 (Nat.le_trans hsr HO.out.2.1.size) (fun k e => by have := (World.ownsRow.lt HO.out.1 k e).1; omega)).setCell (by simp only; omega) _
            · have h := World.ownsRow.kept HR3.out.1 (grownBy_set w5 ⟨w.heap.size + 5, 3, none⟩ (.slice (some ⟨g3, 0, none⟩) (j + 1) cap3)) (.inr (by
                have := (World.ownsRow.lt HR3.out.1 g3 rfl).1
                simp [Value.ownBlock]; omega))
              simpa [repC, HC.out] using h
          · simp [intOf]; omega
        · have hje : j = nn := by omega
          subst hje
          go_wp2_with fail
          refine HIW.out.mono ?_
          rintro e w' ⟨rfl, rfl⟩
          have hgs : IsGs (fun b => w.heap.size + 2 ≤ b ∧ b ≠ w.heap.size + 5) wr (List.replicate j s.point) (repC C j) := by
            rw [HC.out]
            exact isGs_rep (((HM.out.point hs).keeps (fun b o hb ho _ => by subst hb; exact (hbr.block _ (by omega)).trans ho)).mono fun b _ hb => by omega) j
          have hG : IsG (fun b => w.heap.size + 2 ≤ b ∧ b ≠ w.heap.size + 5) wr (.mk 7 [] [] (List.replicate j s.point)) [.int .i64 7, .slice none 0 0, .slice none 0 0, v] := by
            simp only [IsG]
            refine ⟨_, _, _, rfl, ⟨by simp, Sl.nil _ _⟩, ⟨[], Sl.nil _ _, .nil⟩, _, ?_, hgs⟩
            rw [List.length_replicate]
            exact (Sl.of_own hor (by omega)).mono fun b _ hb => by omega
          obtain ⟨A, c, rfl, _⟩ := Sl.of_own hor (by omega)
          have HS := Lib.hid (And.intro hbr (And.intro hxr hG))
          obtain ⟨w6, hw6⟩ : ∃ w6, w6 = wr := ⟨_, rfl⟩
          clear hgs hG hor hxr hbr HR HIW m2 p0 p1 p2 p3 v3
          go_wp2_with fail
          go_loopw [9] (fun i W => ∃ d : Nat, d ≤ dd ∧ i = .int .i64 d ∧ Hid (∃ A n c, Below w3.heap.size w3 W ∧ W.heap[w.heap.size + 5]? = some (.cells #[.int .i64 7, .slice none 0 0, .slice none 0 0, .slice A n c] 51 (0, 0)) ∧ IsG (fun b => w.heap.size + 2 ≤ b ∧ b ≠ w.heap.size + 5) W (nest d (.mk 7 [] [] (List.replicate j s.point))) [.int .i64 7, .slice none 0 0, .slice none 0 0, .slice A n c])) (fun i _ => dd - (intOf i).toNat)
          case atStart => exact ⟨0, Nat.zero_le _, rfl, Lib.hid ⟨_, _, _, HS.out⟩⟩
          case round =>
            obtain ⟨d, hd, rfl, HR⟩ := hrel
            obtain ⟨B, n, cb, hbr, hxr, hG⟩ := HR.out
            have HIW := Lib.hid (into_any s.dp 5 wr (by omega) (by omega))
            rw [HND.out.2] at HIW
            have hsz3 := HM.out.size
            have hsr := hbr.size
            have m1 := cell_row (cs := [_, _, _, _, _, _]) (j := 1) ((hbr.block _ (by omega)).trans HM.out.b0) rfl
            have x0 := cell_row (cs := [_, _, _, _]) (j := 0) hxr rfl
            have x1 := cell_row (cs := [_, _, _, _]) (j := 1) hxr rfl
            have x2 := cell_row (cs := [_, _, _, _]) (j := 2) hxr rfl
            have x3 := cell_row (cs := [_, _, _, _]) (j := 3) hxr rfl
            have hl5 := lt_of_heap hxr
            by_cases hdn : d < dd
            · have hb5 := (Below.refl wr.heap.size wr).alloc (Nat.le_refl _) (.cells #[.int .i64 7, .slice none 0 0, .slice none 0 0, .slice B n cb] 51)
              have hx5 : (wr.alloc (.cells #[.int .i64 7, .slice none 0 0, .slice none 0 0, .slice B n cb] 51)).heap[wr.heap.size]? = some (.cells #[.int .i64 7, .slice none 0 0, .slice none 0 0, .slice B n cb] 51 (0, 0)) := World.alloc_heap_new _ _
              have hy5 := (hb5.block _ hl5).trans hxr
              have f0 := frozen_of_row wr (w.heap.size + 5) 0 _ _ hxr
              have f1 := frozen_of_row wr (w.heap.size + 5) 1 _ _ hxr
              have f2 := frozen_of_row wr (w.heap.size + 5) 2 _ _ hxr
              have f3 := frozen_of_row wr (w.heap.size + 5) 3 _ _ hxr
              have HG := Lib.hid (And.intro hbr (And.intro hG hxr))
              clear hb5 hx5 hy5 hxr hbr hG HR
              go_wp2_with fail
              refine HIW.out.mono ?_
              rintro e w' ⟨rfl, rfl⟩
              go_wp2_with fail
              go_roundw
              · obtain ⟨V, hV⟩ : ∃ V, V = (((wr.setCell ⟨w.heap.size + 5, 0, none⟩ (.int .i64 7)).setCell ⟨w.heap.size + 5, 1, none⟩ (.slice none 0 0)).setCell ⟨w.heap.size + 5, 2, none⟩ (.slice none 0 0)).setCell ⟨w.heap.size + 5, 3, none⟩ (.slice (some ⟨wr.heap.size, 0, none⟩) 1 1) := ⟨_, rfl⟩
                obtain ⟨e1, e2, e3, e4⟩ := four_set HG.out.2.2 (.int .i64 7) (.slice none 0 0) (.slice none 0 0) (.slice (some ⟨wr.heap.size, 0, none⟩) 1 1) hV
                rw [← hV]
                have hbv := (Below.refl V.heap.size V).alloc (Nat.le_refl _) (.cells #[.int .i64 7, .slice none 0 0, .slice none 0 0, .slice B n cb] 51)
                have hxv : (V.alloc (.cells #[.int .i64 7, .slice none 0 0, .slice none 0 0, .slice B n cb] 51)).heap[wr.heap.size]? = some (.cells #[.int .i64 7, .slice none 0 0, .slice none 0 0, .slice B n cb] 51 (0, 0)) := by rw [← e3]; exact World.alloc_heap_new _ _
                refine ⟨d + 1, hdn, by simp, Lib.hid ⟨_, _, _, (e4 _ _ (by omega) HG.out.1).trans (hbv.mono (by omega)), (hbv.block _ (by omega)).trans e1, ?_⟩⟩
                simp only [nest, IsG]
                refine ⟨_, _, _, rfl, ⟨by simp, Sl.nil _ _⟩, ⟨[], Sl.nil _ _, .nil⟩, [.int .i64 7, .slice none 0 0, .slice none 0 0, .slice B n cb], ⟨_, _, rfl, Nat.le_refl _, by simp, .inr ⟨_, _, rfl, ⟨by omega, by omega⟩, fun i c hc => ?_⟩⟩, IsGs.one ?_⟩
                · rw [Nat.zero_add]; exact cell_row (cs := [_, _, _, _]) hxv hc
                · exact HG.out.2.1.keeps fun b o hb ho _ => ((hbv.block _ (by have := lt_of_heap ho; omega)).trans (e2 b hb.2)).trans ho
              · simp [intOf]; omega
            · have hde : d = dd := by omega
              subst hde
              have hb1r := (hbr.block _ (show w.heap.size + 1 < w3.heap.size by omega)).trans HM.out.b1
              have r0 := cell_row (cs := [_, _, _, _]) (j := 0) hb1r rfl
              have r1 := cell_row (cs := [_, _, _, _]) (j := 1) hb1r rfl
              have r2 := cell_row (cs := [_, _, _, _]) (j := 2) hb1r rfl
              have r3 := cell_row (cs := [_, _, _, _]) (j := 3) hb1r rfl
              have f0 := frozen_of_row wr (w.heap.size + 1) 0 _ _ hb1r
              have f1 := frozen_of_row wr (w.heap.size + 1) 1 _ _ hb1r
              have f2 := frozen_of_row wr (w.heap.size + 1) 2 _ _ hb1r
              have f3 := frozen_of_row wr (w.heap.size + 1) 3 _ _ hb1r
              have HXR := Lib.hid (And.intro hb1r (And.intro hG hbr))
              clear hb1r hG hxr hbr HR
              go_wp2_with fail
              refine HIW.out.mono ?_
              rintro e w' ⟨rfl, rfl⟩
              go_wp2_with fail
              obtain ⟨e1, e2, e3, e4⟩ := four_set HXR.out.1 (.int .i64 7) (.slice none 0 0) (.slice none 0 0) (.slice B n cb) rfl
              refine bodyPost_ret (v := .agg #[.int .i64 7, .slice none 0 0, .slice none 0 0, .slice B n cb]) ?_ rfl ?_
              · refine results_cell_row (p := 2) (ty := 51) Tryd.results38 _ _ (w.heap.size + 1) _ _ _ _ ?_ e1 Tryd.underlying51 rfl Tryd.infoG4
                rfl
              refine ⟨[_, _, _, _], rfl, ?_, e4 _ _ (by omega) (HM.out.below.trans (HXR.out.2.2.mono HM.out.below.size))⟩
              rw [hmade, HND.out.1, HND.out.2]
              simp only [Int.toNat_natCast]
              exact (HXR.out.2.1.keeps fun b o hb ho _ => (e2 _ (by omega)).trans ho).mono fun b _ hb => by omega

mutual
/-- the geometries and points of a tree -/
def weightG : G → Nat
  | .mk _ l r p => 1 + l.length + (r.map List.length).sum + weightGs p
def weightGs : List G → Nat
  | [] => 0
  | g :: gs => weightG g + weightGs gs
end
mutual
theorem begun_le : ∀ (g : G), begunG g ≤ weightG g
  | .mk k l r p => by
    have := begun_les p
    simp only [begunG, weightG]
    split <;> omega
theorem begun_les : ∀ (p : List G), begunGs p ≤ weightGs p
  | [] => by simp [begunGs, weightGs]
  | g :: p => by
    have := begun_le g
    have := begun_les p
    simp only [begunGs, weightGs]; omega
end
mutual
theorem depth_le : ∀ (g : G), depth g ≤ weightG g
  | .mk k l r p => by
    have := depth_les p
    simp only [depth, weightG]
    omega
theorem depth_les : ∀ (p : List G), depths p ≤ weightGs p
  | [] => by simp [depths, weightGs]
  | g :: p => by
    have := depth_le g
    have := depth_les p
    simp only [depths, weightGs]; omega
end
mutual
theorem small_of : ∀ (g : G), weightG g ≤ 65536 → SmallG g
  | .mk k l r p, h => by
    simp only [weightG] at h
    simp only [SmallG]
    exact ⟨by simp only [ownN, G.line, G.rings]; omega, small_ofs p (by omega)⟩
theorem small_ofs : ∀ (p : List G), weightGs p ≤ 65536 → SmallGs p
  | [], _ => by simp [SmallGs]
  | g :: p, h => by
    simp only [weightGs] at h
    simp only [SmallGs]
    exact ⟨small_of g (by omega), small_ofs p (by omega)⟩
end
/-- one geometry is as it may be -/
theorem wrong_none {level home : Int} {k : Int} {l : List Pt} {r : List (List Pt)} {p : List G} {t : Nat} (h : WellG 256 level home (.mk k l r p)) (ht : t ≤ 65536) : wrongE (.mk k l r p) level home t = 0 := by
  simp only [WellG] at h
  obtain ⟨h1, h2, h3⟩ := h
  have hf : fitsB k home = true := by
    simp only [memberB, Bool.or_eq_true, decide_eq_true_eq] at h2
    unfold fitsB
    split
    · simp; omega
    · rfl
  have hl : listsB (.mk k l r p) = true := by
    show listsN k l.length r.length p.length (r.all fun r => r.length != 0) = true
    unfold listsN
    rcases h3 with ⟨rfl, rfl, rfl, h, _⟩ | ⟨rfl, rfl, rfl, h, _⟩ | ⟨rfl, rfl, rfl, _, h⟩ | ⟨h4, h7, rfl, rfl, _, _⟩
    · simp [h]
    · simp
    · rw [if_pos rfl]
      have h5 : (r.all fun r => r.length != 0) = true := by
        rw [List.all_eq_true]
        intro x hx
        have := List.length_pos_iff.2 (h x hx).1
        rw [bne_iff_ne]; omega
      rw [h5]; rfl
    · rw [if_neg (by omega), if_neg (by omega), if_neg (by omega), if_pos (by omega)]; rfl
  have hfin : (l.all finP && r.all (fun r => r.all finP)) = true := by
    rw [Bool.and_eq_true, List.all_eq_true, List.all_eq_true]
    rcases h3 with ⟨_, rfl, _, _, h⟩ | ⟨_, rfl, _, _, h⟩ | ⟨_, rfl, _, _, h⟩ | ⟨_, _, rfl, rfl, _, _⟩
    · exact ⟨fun x hx => (h x hx).2, by simp⟩
    · exact ⟨fun x hx => (h x hx).2, by simp⟩
    · exact ⟨by simp, fun x hx => by rw [List.all_eq_true]; exact fun y hy => ((h x hx).2.2 y hy).2⟩
    · exact ⟨by simp, by simp⟩
  unfold wrongE
  rw [if_neg (by omega), if_neg (by rw [hl]; simp [G.kind, hf]), if_neg (by omega)]
  simp only [G.line, G.rings]
  rw [hfin]; rfl
theorem checkGo_append : ∀ (xs ys : List It) (a t : Nat), checkGo xs a t = none → checkGo (xs ++ ys) a t = checkGo ys (a + xs.length) (t + (xs.map fun x => 1 + ownN x.g).sum)
  | [], ys, a, t, _ => by simp
  | x :: xs, ys, a, t, h => by
    simp only [checkGo] at h
    split at h
    · rename_i h0
      simp only [List.cons_append, checkGo]
      rw [if_pos h0, checkGo_append xs ys _ _ h]
      simp only [List.length_cons, List.map_cons, List.sum_cons]
      congr 1 <;> omega
    · cases h
mutual
theorem check_well : ∀ (g : G) (level home : Int) (a t : Nat), WellG 256 level home g → t + weightG g ≤ 65536 → checkGo (items g level home) a t = none ∧ ((items g level home).map fun x => 1 + ownN x.g).sum = weightG g
  | .mk k l r p, level, home, a, t, h, hw => by
    have h0 := h
    simp only [WellG] at h
    simp only [weightG] at hw ⊢
    simp only [items, checkGo, List.map_cons, List.sum_cons]
    have ho : 1 + ownN (.mk k l r p) = 1 + l.length + (r.map List.length).sum := by simp only [ownN, G.line, G.rings]; omega
    rw [ho, if_pos (wrong_none h0 (by omega))]
    have hp : WellGs 256 (level + 1) k p := by
      rcases h.2.2 with ⟨_, _, rfl, _⟩ | ⟨_, _, rfl, _⟩ | ⟨_, _, rfl, _⟩ | ⟨_, _, _, _, _, h⟩
      · simp [WellGs]
      · simp [WellGs]
      · simp [WellGs]
      · exact h
    obtain ⟨q1, q2⟩ := check_wells p (level + 1) k (a + 1) (t + (1 + l.length + (r.map List.length).sum)) hp (by omega)
    exact ⟨q1, by rw [q2]⟩
theorem check_wells : ∀ (p : List G) (level home : Int) (a t : Nat), WellGs 256 level home p → t + weightGs p ≤ 65536 → checkGo (itemss p level home) a t = none ∧ ((itemss p level home).map fun x => 1 + ownN x.g).sum = weightGs p
  | [], level, home, a, t, _, _ => by simp [itemss, checkGo, weightGs]
  | g :: p, level, home, a, t, h, hw => by
    simp only [WellGs] at h
    simp only [weightGs] at hw ⊢
    obtain ⟨q1, q2⟩ := check_well g level home a t h.1 (by omega)
    obtain ⟨q3, q4⟩ := check_wells p level home (a + (items g level home).length) (t + weightG g) h.2 (by omega)
    simp only [itemss, List.map_append, List.sum_append]
    rw [checkGo_append _ _ _ _ q1, q2, q4]
    exact ⟨q3, rfl⟩
end
theorem check_none {g : G} (h : WellG 256 1 0 g) (hw : weightG g ≤ 65536) : checkR g = none := (check_well g 1 0 0 0 h (by omega)).1

/-! the shapes -/
theorem Shp.pt_ok {s : Shp} (h : s.ok) : PtOk s.pt ∧ finP s.pt = true := by
  refine ⟨⟨finB_lt h.1, finB_lt h.2⟩, ?_⟩
  simp only [finP, Shp.pt, Bool.and_eq_true]
  exact ⟨decide_eq_true finB_fin, decide_eq_true finB_fin⟩
theorem well_point {s : Shp} (h : s.ok) (level home : Int) (hl : level ≤ 256) (hm : memberB home 1 = true) : WellG 256 level home s.point := by
  simp only [Shp.point, WellG]
  exact ⟨hl, hm, .inl ⟨by trivial, by trivial, by trivial, by simp, by simpa using Shp.pt_ok h⟩⟩
theorem well_rep {s : Shp} (h : s.ok) (level : Int) (hl : level ≤ 256) : ∀ n, WellGs 256 level 7 (List.replicate n s.point)
  | 0 => by simp [WellGs]
  | n + 1 => by simp only [List.replicate_succ, WellGs]; exact ⟨well_point h level 7 hl rfl, well_rep h level hl n⟩
theorem pairs_fin {s : Shp} (h : s.ok) : ∀ n, ∀ q ∈ pairs s.pt n, PtOk q ∧ finP q = true
  | 0 => by simp [pairs]
  | n + 1 => by
    intro q hq
    simp only [pairs, List.mem_append, List.mem_cons, List.not_mem_nil, or_false] at hq
    rcases hq with hq | rfl | rfl
    · exact pairs_fin h n q hq
    · exact Shp.pt_ok h
    · refine ⟨⟨finB_lt h.2, finB_lt h.1⟩, ?_⟩
      simp only [finP, Shp.pt, Bool.and_eq_true]
      exact ⟨decide_eq_true finB_fin, decide_eq_true finB_fin⟩
theorem well_nest {s : Shp} (h : s.ok) (n : Nat) (hn : n < 4) : ∀ (d : Nat) (level home : Int), level + d + 1 ≤ 256 → memberB home 7 = true → WellG 256 level home (nest d (.mk 7 [] [] (List.replicate n s.point)))
  | 0, level, home, hl, hm => by
    simp only [nest, WellG]
    exact ⟨by omega, hm, .inr (.inr (.inr ⟨by omega, by omega, by trivial, by trivial, by simp; omega, well_rep h _ (by omega) n⟩))⟩
  | d + 1, level, home, hl, hm => by
    simp only [nest, WellG, WellGs]
    exact ⟨by omega, hm, .inr (.inr (.inr ⟨by omega, by omega, by trivial, by trivial, by simp, well_nest h n hn d (level + 1) 7 (by omega) rfl, trivial⟩))⟩
theorem made_well {s : Shp} (h : s.ok) : WellG 256 1 0 s.made := by
  unfold Shp.made
  split
  · exact well_point h 1 0 (by omega) rfl
  split
  · simp only [WellG]
    exact ⟨by omega, rfl, .inl ⟨by trivial, by trivial, by trivial, by simp, by simp⟩⟩
  split
  · simp only [WellG]
    exact ⟨by omega, rfl, .inr (.inl ⟨by trivial, by trivial, by trivial, by rw [pairs_length]; omega, pairs_fin h _⟩)⟩
  · exact well_nest h _ (by omega) _ 1 0 (by omega) rfl
theorem weight_rep (s : Shp) : ∀ n, weightGs (List.replicate n s.point) = 2 * n
  | 0 => by simp [weightGs]
  | n + 1 => by
    have h := weight_rep s n
    rw [List.replicate_succ]
    simp only [weightGs, h]
    simp only [Shp.point, weightG, weightGs, List.length_cons, List.length_nil, List.map_nil, List.sum_nil]; omega
theorem weight_nest (g : G) : ∀ d, weightG (nest d g) = d + weightG g
  | 0 => by simp [nest]
  | d + 1 => by simp only [nest, weightG, weightGs, weight_nest g d]; simp; omega
theorem made_weight (s : Shp) : weightG s.made ≤ 100 := by
  unfold Shp.made
  split
  · simp [Shp.point, weightG, weightGs]
  split
  · simp [weightG, weightGs]
  split
  · simp only [weightG, weightGs, pairs_length]; simp; omega
  · rw [weight_nest]; simp only [weightG, weight_rep]; simp; omega
theorem rings_le : ∀ (r : List (List Pt)), (∀ x ∈ r, x ≠ []) → (r.map fun x => 4 + 16 * x.length).sum ≤ 20 * (r.map List.length).sum
  | [], _ => by simp
  | x :: r, h => by
    have h1 := rings_le r (fun y hy => h y (by simp [hy]))
    have h2 := List.length_pos_iff.2 (h x (by simp))
    simp only [List.map_cons, List.sum_cons]; omega
mutual
/-- a tree's bytes, by its weight -/
theorem enc_le (os : List Bool) (deep : Int) : ∀ (g : G) (level home : Int) (n : Nat), WellG deep level home g → (encG os g n).length ≤ 40 * weightG g
  | .mk k l r p, level, home, n, hw => by
    simp only [WellG] at hw
    rw [encG_len]
    unfold encBody
    simp only [weightG]
    rcases hw.2.2 with ⟨rfl, rfl, rfl, _, _⟩ | ⟨rfl, rfl, rfl, _, _⟩ | ⟨rfl, rfl, rfl, _, h⟩ | ⟨h4, h7, rfl, rfl, _, h⟩
    · rw [if_pos rfl, encPs_length]
      split
      · simp only [List.length_cons, List.length_nil]; omega
      · omega
    · rw [if_neg (by decide), if_pos rfl]
      simp only [List.length_append, encB_length, encPs_length]; omega
    · rw [if_neg (by decide), if_neg (by decide), if_pos rfl, List.length_append, encB_length, encRs_length]
      have := rings_le r (fun x hx => (h x hx).1)
      omega
    · rw [if_neg (by omega), if_neg (by omega), if_neg (by omega), List.length_append, encB_length]
      have := enc_les os deep p (level + 1) k (n + 1) h
      omega
theorem enc_les (os : List Bool) (deep : Int) : ∀ (p : List G) (level home : Int) (n : Nat), WellGs deep level home p → (encGs os p n).length ≤ 40 * weightGs p
  | [], level, home, n, _ => by simp [encGs]
  | g :: p, level, home, n, hw => by
    simp only [WellGs] at hw
    have h1 := enc_le os deep g level home n hw.1
    have h2 := enc_les os deep p level home (n + begunG g) hw.2
    simp only [encGs, weightGs, List.length_append]; omega
end
theorem made_enc {s : Shp} (h : s.ok) (lt : Bool) : (encG [lt] s.made 0).length ≤ 4000 := by
  have := enc_le [lt] 256 s.made 1 0 0 (made_well h)
  have := made_weight s
  omega
theorem made_check {s : Shp} (h : s.ok) : checkR s.made = none := check_none (made_well h) (by have := made_weight s; omega)
/-- a shape's record -/
def Shp.bytes (s : Shp) : List UInt8 := frameB (encG [s.lt] s.made 0)
theorem rec_len {s : Shp} (h : s.ok) : 21 ≤ s.bytes.length ∧ s.bytes.length ≤ 4012 := by
  have := made_enc h s.lt
  have := encG_least [s.lt] s.made 0
  have := frameB_length (encG [s.lt] s.made 0)
  unfold Shp.bytes; omega
end Go.Proofs.YtlffgepnhhnadaaDoor.Pl
