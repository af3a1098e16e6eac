/- Numbers by words of 64 bits, the lowest first, in plain Lean. -/
import Derived.Laws.MathBits
namespace Go.Proofs.YtjdelpelnjhidaaGreatDoor.Pl

def val : List Nat → Nat
  | [] => 0
  | x :: l => x + 18446744073709551616 * val l
def W64 (l : List Nat) : Prop := ∀ x ∈ l, x < 18446744073709551616
def ws (n : Nat) : List Nat := if n = 0 then [] else n % 18446744073709551616 :: ws (n / 18446744073709551616)
termination_by n
decreasing_by omega
/-- how many words are left without zeros at the high end -/
def size : List Nat → Nat
  | [] => 0
  | x :: l => if size l = 0 then (if x = 0 then 0 else 1) else size l + 1

theorem pow_pos64 (k : Nat) : 0 < 18446744073709551616 ^ k := Nat.pow_pos (by decide)
theorem W64.nil : W64 [] := fun _ h => by cases h
theorem W64.cons {x : Nat} {l : List Nat} (hx : x < 18446744073709551616) (h : W64 l) : W64 (x :: l) := fun y hy => by
  rcases List.mem_cons.1 hy with rfl | hy
  · exact hx
  · exact h y hy
theorem W64.head {x : Nat} {l : List Nat} (h : W64 (x :: l)) : x < 18446744073709551616 := h x (List.mem_cons_self ..)
theorem W64.tail {x : Nat} {l : List Nat} (h : W64 (x :: l)) : W64 l := fun y hy => h y (List.mem_cons_of_mem _ hy)
theorem W64.append {a b : List Nat} (h : W64 a) (k : W64 b) : W64 (a ++ b) := fun x hx => (List.mem_append.1 hx).elim (h x) (k x)
theorem W64.take {l : List Nat} (h : W64 l) (k : Nat) : W64 (l.take k) := fun x hx => h x (List.mem_of_mem_take hx)
theorem W64.drop {l : List Nat} (h : W64 l) (k : Nat) : W64 (l.drop k) := fun x hx => h x (List.mem_of_mem_drop hx)
theorem W64.get {l : List Nat} (h : W64 l) {i x : Nat} (hi : l[i]? = some x) : x < 18446744073709551616 := h x (List.mem_of_getElem? hi)
theorem W64.set {l : List Nat} (h : W64 l) (i : Nat) {x : Nat} (hx : x < 18446744073709551616) : W64 (l.set i x) := fun y hy => by
  rcases List.mem_or_eq_of_mem_set hy with hy | rfl
  · exact h y hy
  · exact hx
theorem W64.replicate (k : Nat) : W64 (List.replicate k 0) := fun x hx => by rw [List.eq_of_mem_replicate hx]; decide

theorem val_append (a b : List Nat) : val (a ++ b) = val a + 18446744073709551616 ^ a.length * val b := by
  induction a with
  | nil => simp [val]
  | cons x a ih => simp only [List.cons_append, val, ih, List.length_cons, Nat.pow_succ]; grind
theorem val_replicate (k : Nat) : val (List.replicate k 0) = 0 := by
  induction k with
  | zero => rfl
  | succ k ih => simp [List.replicate_succ, val, ih]
theorem val_lt {l : List Nat} (h : W64 l) : val l < 18446744073709551616 ^ l.length := by
  induction l with
  | nil => simp [val]
  | cons x l ih =>
    have h1 := ih h.tail
    have h2 := h.head
    have h3 : val l + 1 ≤ 18446744073709551616 ^ l.length := h1
    have h4 := Nat.mul_le_mul_left 18446744073709551616 h3
    simp only [val, List.length_cons, Nat.pow_succ]
    rw [Nat.mul_comm (18446744073709551616 ^ l.length)]
    omega
theorem val_take_drop (l : List Nat) (k : Nat) (hk : k ≤ l.length) : val l = val (l.take k) + 18446744073709551616 ^ k * val (l.drop k) := by
  have := val_append (l.take k) (l.drop k)
  rw [List.take_append_drop, List.length_take, Nat.min_eq_left hk] at this
  exact this
theorem val_take_succ (l : List Nat) (k x : Nat) (hk : l[k]? = some x) : val (l.take (k + 1)) = val (l.take k) + 18446744073709551616 ^ k * x := by
  have hl := (List.getElem?_eq_some_iff.1 hk).1
  rw [List.take_add_one, hk, val_append]
  simp [val, Nat.min_eq_left (Nat.le_of_lt hl)]
theorem val_ws (n : Nat) : val (ws n) = n := by
  induction n using Nat.strongRecOn with
  | ind n ih =>
    rw [ws]
    split
    · rename_i h; simp [val, h]
    · rename_i h
      rw [val, ih _ (by omega)]
      omega
theorem ws_w (n : Nat) : W64 (ws n) := by
  induction n using Nat.strongRecOn with
  | ind n ih =>
    rw [ws]
    split
    · exact W64.nil
    · exact W64.cons (Nat.mod_lt _ (by decide)) (ih _ (by omega))
theorem ws_zero : ws 0 = [] := by rw [ws]; rfl
theorem ws_eq_nil {n : Nat} (h : ws n = []) : n = 0 := by rw [← val_ws n, h]; rfl
theorem ws_len_zero {n : Nat} : (ws n).length = 0 ↔ n = 0 := ⟨fun h => ws_eq_nil (List.eq_nil_of_length_eq_zero h), fun h => by rw [h, ws_zero]; rfl⟩
theorem size_le : ∀ l : List Nat, size l ≤ l.length
  | [] => Nat.le_refl _
  | x :: l => by
    have := size_le l
    simp only [size, List.length_cons]
    split
    · split <;> omega
    · omega
theorem size_zero : ∀ {l : List Nat}, size l = 0 → val l = 0
  | [], _ => rfl
  | x :: l, h => by
    simp only [size] at h
    split at h
    · rename_i h0
      split at h
      · rename_i hx; rw [val, size_zero h0, hx]
      · omega
    · omega
theorem take_size : ∀ {l : List Nat}, W64 l → l.take (size l) = ws (val l)
  | [], _ => by rw [val, ws_zero]; rfl
  | x :: l, h => by
    have ih := take_size h.tail
    simp only [size]
    by_cases h0 : size l = 0
    · rw [if_pos h0]
      have hv := size_zero h0
      by_cases hx : x = 0
      · rw [if_pos hx, val, hv, hx]
        simp [ws_zero]
      · rw [if_neg hx, val, hv, ws, if_neg (by omega), show (x + 18446744073709551616 * 0) % 18446744073709551616 = x by have := h.head; omega,
          show (x + 18446744073709551616 * 0) / 18446744073709551616 = 0 by have := h.head; omega, ws_zero]
        rfl
    · rw [if_neg h0, List.take_succ_cons, ih]
      have hv : val l ≠ 0 := by
        intro e
        rw [e, ws_zero] at ih
        have := congrArg List.length ih
        rw [List.length_take, List.length_nil] at this
        have := size_le l
        omega
      rw [val, ws.eq_1 (x + 18446744073709551616 * val l), if_neg (by omega), show (x + 18446744073709551616 * val l) % 18446744073709551616 = x by have := h.head; omega,
        show (x + 18446744073709551616 * val l) / 18446744073709551616 = val l by have := h.head; omega]
theorem size_ws {l : List Nat} (h : W64 l) : size l = (ws (val l)).length := by
  rw [← take_size h, List.length_take, Nat.min_eq_left (size_le l)]
theorem size_of_ws (n : Nat) : size (ws n) = (ws n).length := by rw [size_ws (ws_w n), val_ws]
/-- the words of a number, from its list: none but zeros behind -/
theorem drop_size : ∀ {l : List Nat}, W64 l → val (l.drop (size l)) = 0 := fun {l} h => by
  have h1 := val_take_drop l (size l) (size_le l)
  rw [take_size h, val_ws] at h1
  have := pow_pos64 (size l)
  rcases Nat.eq_zero_or_pos (val (l.drop (size l))) with h2 | h2
  · exact h2
  · have := Nat.mul_pos this h2; omega
theorem ws_last {l : List Nat} (h : W64 l) (hz : size l = l.length) : ws (val l) = l := by rw [← take_size h, hz, List.take_length]
theorem ws_len_le {n k : Nat} : (ws n).length ≤ k ↔ n < 18446744073709551616 ^ k := by
  constructor
  · intro h
    have h1 := val_lt (ws_w n)
    rw [val_ws] at h1
    exact Nat.lt_of_lt_of_le h1 (Nat.pow_le_pow_right (by decide) h)
  · induction k generalizing n with
    | zero => intro h; rw [Nat.pow_zero] at h; rw [show n = 0 by omega, ws_zero]; exact Nat.le_refl _
    | succ k ih =>
      intro h
      rw [ws]
      split
      · exact Nat.zero_le _
      · rw [List.length_cons]
        refine Nat.succ_le_succ (ih ?_)
        rw [Nat.pow_succ] at h
        exact (Nat.div_lt_iff_lt_mul (by decide)).2 h
/-- the top word of a normal form -/
theorem ws_top {n : Nat} (h : n ≠ 0) : ∃ x, (ws n)[(ws n).length - 1]? = some x ∧ x ≠ 0 ∧ n = val ((ws n).take ((ws n).length - 1)) + 18446744073709551616 ^ ((ws n).length - 1) * x := by
  have hl : (ws n).length ≠ 0 := fun e => h (ws_len_zero.1 e)
  obtain ⟨x, hx⟩ : ∃ x, (ws n)[(ws n).length - 1]? = some x := ⟨_, List.getElem?_eq_getElem (by omega)⟩
  have h1 := val_take_succ (ws n) ((ws n).length - 1) x hx
  rw [Nat.sub_add_cancel (by omega), List.take_length, val_ws] at h1
  refine ⟨x, hx, fun e => ?_, h1⟩
  subst e
  have h2 : n < 18446744073709551616 ^ ((ws n).length - 1) := by
    have h3 := val_lt ((ws_w n).take ((ws n).length - 1))
    rw [List.length_take, Nat.min_eq_left (by omega)] at h3
    omega
  have := ws_len_le.2 h2
  omega
/-- lists that agree from a place on: the word at that place decides -/
theorem val_cmp {x y : List Nat} (hx : W64 x) (hl : x.length = y.length) {i a b : Nat} (ha : x[i]? = some a) (hb : y[i]? = some b) (hd : x.drop (i + 1) = y.drop (i + 1)) (h : a < b) : val x < val y := by
  have hi := (List.getElem?_eq_some_iff.1 ha).1
  have hi' := (List.getElem?_eq_some_iff.1 hb).1
  rw [val_take_drop x (i + 1) (by omega), val_take_drop y (i + 1) (by omega), val_take_succ x i a ha, val_take_succ y i b hb, hd]
  have h1 := val_lt (hx.take i)
  rw [List.length_take, Nat.min_eq_left (Nat.le_of_lt hi)] at h1
  have h2 : 18446744073709551616 ^ i * (a + 1) ≤ 18446744073709551616 ^ i * b := Nat.mul_le_mul_left _ h
  rw [Nat.mul_add, Nat.mul_one] at h2
  omega
/-- the bits of a number -/
abbrev bl (n : Nat) : Nat := bitLen n
theorem bl_zero : bl 0 = 0 := rfl
theorem bl_pos {n : Nat} (h : n ≠ 0) : 0 < bl n := by unfold bl bitLen; rw [if_neg h]; omega
theorem lt_bl (n : Nat) : n < 2 ^ bl n := (bitLen_spec n).1
theorem bl_le {n : Nat} (h : n ≠ 0) : 2 ^ (bl n - 1) ≤ n := (bitLen_spec n).2 h
theorem bl_le_iff {n k : Nat} : bl n ≤ k ↔ n < 2 ^ k := by
  constructor
  · intro h; exact Nat.lt_of_lt_of_le (lt_bl n) (Nat.pow_le_pow_right (by decide) h)
  · intro h
    by_cases h0 : n = 0
    · subst h0; exact Nat.zero_le _
    · have h1 := Nat.lt_of_le_of_lt (bl_le h0) h
      have := (Nat.pow_lt_pow_iff_right (by decide : 1 < 2)).1 h1
      omega
theorem bl_eq {n k : Nat} (h1 : 2 ^ k ≤ n) (h2 : n < 2 ^ (k + 1)) : bl n = k + 1 := by
  have h3 := bl_le_iff.2 h2
  have h4 : ¬ bl n ≤ k := fun h => by have := bl_le_iff.1 h; omega
  omega
theorem bl_mono {a b : Nat} (h : a ≤ b) : bl a ≤ bl b := bl_le_iff.2 (Nat.lt_of_le_of_lt h (lt_bl b))
theorem bl_shift {n : Nat} (k : Nat) (h : n ≠ 0) : bl (n * 2 ^ k) = bl n + k := by
  have hp := bl_pos h
  have h1 : 2 ^ (bl n - 1 + k) ≤ n * 2 ^ k := by rw [Nat.pow_add]; exact Nat.mul_le_mul_right _ (bl_le h)
  have h2 : n * 2 ^ k < 2 ^ (bl n - 1 + k + 1) := by
    rw [show bl n - 1 + k + 1 = bl n + k by omega, Nat.pow_add]
    exact Nat.mul_lt_mul_of_pos_right (lt_bl n) (Nat.two_pow_pos k)
  rw [bl_eq h1 h2]; omega
theorem pow64 (k : Nat) : 18446744073709551616 ^ k = 2 ^ (64 * k) := by rw [Nat.pow_mul]
/-- the bits of a normal form: those of its top word, and 64 for each below -/
theorem bl_ws {n x : Nat} (h : n ≠ 0) (hx : (ws n)[(ws n).length - 1]? = some x) : bl n = 64 * ((ws n).length - 1) + bl x := by
  obtain ⟨x', hx', h0, hn⟩ := ws_top h
  rw [hx] at hx'
  cases hx'
  have hl : (ws n).length ≠ 0 := fun e => h (ws_len_zero.1 e)
  have h3 := val_lt ((ws_w n).take ((ws n).length - 1))
  rw [List.length_take, Nat.min_eq_left (by omega), pow64] at h3
  rw [pow64] at hn
  have hp := bl_pos h0
  have h1 : 2 ^ (64 * ((ws n).length - 1) + (bl x - 1)) ≤ n := by
    rw [Nat.pow_add]
    exact Nat.le_trans (Nat.mul_le_mul_left _ (bl_le h0)) (by omega)
  have h2 : n < 2 ^ (64 * ((ws n).length - 1) + (bl x - 1) + 1) := by
    rw [show 64 * ((ws n).length - 1) + (bl x - 1) + 1 = 64 * ((ws n).length - 1) + bl x by omega, Nat.pow_add]
    have h4 : 2 ^ (64 * ((ws n).length - 1)) * (x + 1) ≤ 2 ^ (64 * ((ws n).length - 1)) * 2 ^ bl x := Nat.mul_le_mul_left _ (lt_bl x)
    rw [Nat.mul_add, Nat.mul_one] at h4
    omega
  rw [bl_eq h1 h2]; omega
end Go.Proofs.YtjdelpelnjhidaaGreatDoor.Pl
